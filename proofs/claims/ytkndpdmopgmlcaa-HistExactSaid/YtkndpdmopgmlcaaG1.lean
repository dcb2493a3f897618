/- What the executor says of append and copy, the machine does. No condition. -/
import Derived.Below
import Derived.Laws.OwnMore
import Derived.Laws.AppendOwn
import Derived.Deep.AppendLies
import Derived.Deep.Draws
import Derived.Laws.Rows
import Derived.OwnWalk
import Derived.Test.YtkndpdmopgmlcaaChecked
import Derived.Maps.Own
import Derived.Maps.OwnOps
import Derived.Maps.OwnSet
import Derived.Maps.Views
import Derived.Carry
import Derived.RangeFuncSeq
import Derived.Shelf.AbstractIn
import Derived.Sort.MapsRangeIn
import Derived.WalkKit
import Derived.OwnWalkIn
import Derived.TacticsInMore
import Derived.RegionIn
import Derived.LoopNIn
import Derived.LoopIn
import Derived.RangeFuncGives
import Derived.Maps.AppendAt
import Derived.Shelf.SlIter.Collect
import Derived.KernelRfl
import Derived.Wp
import Derived.StillTail
import Derived.Laws.StructEq
import Derived.Deep.AppendSrc
import Derived.Deep.MidRow
import Derived.ChangeKeysEq
section
/- Plain words for memory: which blocks a call may have changed; blocks known whole; rows of structs as flat lists of cells. No condition. -/
namespace Go.Proofs.Ytkndpdmopgmlcaa
open Go.RowKit

theorem hide {p : Prop} (h : p) : Hid p := h

/-- w' is w, but for the blocks of S and for new ones. -/
structure Mod (S : List Nat) (w w' : World) : Prop where
  os : w'.os = w.os
  tape : w'.tape = w.tape
  output : w'.output = w.output
  size : w.heap.size ≤ w'.heap.size
  block : ∀ k, k < w.heap.size → k ∉ S → w'.heap[k]? = w.heap[k]?

section
variable {S T : List Nat} {a w w' : World}
theorem Mod.refl (S : List Nat) (w : World) : Mod S w w := ⟨rfl, rfl, rfl, Nat.le_refl _, fun _ _ _ => rfl⟩
theorem Mod.drew (h : Mod S a w) : Mod S a w.drew := ⟨h.os, h.tape, h.output, h.size, h.block⟩
theorem Mod.drewN (h : Mod S a w) (n : Nat) : Mod S a (w.drewN n) := ⟨h.os, h.tape, h.output, h.size, h.block⟩
theorem Mod.alloc (h : Mod S a w) (o : Obj) : Mod S a (w.alloc o) :=
  ⟨h.os, h.tape, h.output, Nat.le_trans h.size (by simp), fun k hk hn => (Below.heap_alloc w o k (Nat.lt_of_lt_of_le hk h.size)).trans (h.block k hk hn)⟩
theorem Mod.setCell (h : Mod S a w) {p : Addr} (hp : p.block ∈ S ∨ a.heap.size ≤ p.block) (u : Value) : Mod S a (w.setCell p u) :=
  ⟨h.os, h.tape, h.output, by simpa [World.setCell] using h.size, fun k hk hn => (Below.heap_setCell w p u k (by
    rintro rfl
    rcases hp with hp | hp
    · exact hn hp
    · omega)).trans (h.block k hk hn)⟩
theorem Mod.trans {b : World} (h : Mod S a w) (k : Mod T w b) (hT : ∀ x, x ∈ T → x ∈ S ∨ a.heap.size ≤ x) : Mod S a b :=
  ⟨k.os.trans h.os, k.tape.trans h.tape, k.output.trans h.output, Nat.le_trans h.size k.size, fun x hx hn =>
    (k.block x (Nat.lt_of_lt_of_le hx h.size) (fun hm => by rcases hT x hm with h1 | h1 <;> first | exact hn h1 | omega)).trans (h.block x hx hn)⟩
theorem Mod.mono (h : Mod S a w) (hT : ∀ x, x ∈ S → x ∈ T ∨ a.heap.size ≤ x) : Mod T a w :=
  ⟨h.os, h.tape, h.output, h.size, fun x hx hn => h.block x hx (fun hm => by rcases hT x hm with h1 | h1 <;> first | exact hn h1 | omega)⟩
theorem Mod.below (h : Mod [] a w) : Below a.heap.size a w := ⟨h.os, h.tape, h.output, h.size, fun k hk => h.block k hk (by simp)⟩
theorem Mod.of_below (h : Below a.heap.size a w) : Mod [] a w := ⟨h.os, h.tape, h.output, h.size, fun k hk _ => h.block k hk⟩
theorem Mod.grown {row : Option Nat} {b : World} (h : Mod S a w) (hg : w.grownBy b row) (hr : ∀ g, row = some g → g ∈ S ∨ a.heap.size ≤ g) : Mod S a b :=
  ⟨hg.os.trans h.os, hg.tape.trans h.tape, hg.output.trans h.output, Nat.le_trans h.size hg.size, fun k hk hn =>
    (hg.block k (Nat.lt_of_lt_of_le hk h.size) (fun e => by rcases hr k e.symm with h1 | h1 <;> first | exact hn h1 | omega)).trans (h.block k hk hn)⟩
theorem Mod.cell (h : Mod S a w) {p : Addr} (hp : p.block < a.heap.size) (hn : p.block ∉ S) : w.cell? p = a.cell? p := World.cell?_of_block (w := a) (h.block p.block hp hn)
theorem Mod.frozen (h : Mod S a w) {p : Addr} (hp : p.block < a.heap.size) (hn : p.block ∉ S) : w.frozen? p = a.frozen? p := World.frozen?_of_block (w := a) (h.block p.block hp hn)
end

/-- Block g is just the cells cs of element type t, none frozen. -/
def Blk (w : World) (g : Nat) (t : TypeId) (cs : List Value) : Prop := w.heap[g]? = some (.cells cs.toArray t (0, 0))

section
variable {S : List Nat} {w w' : World} {g : Nat} {t : TypeId} {cs : List Value}
theorem heap_lt {o : Obj} (h : w.heap[g]? = some o) : g < w.heap.size := by
  rcases Nat.lt_or_ge g w.heap.size with hlt | hge
  · exact hlt
  · rw [Array.getElem?_eq_none hge] at h; cases h
theorem Blk.lt (h : Blk w g t cs) : g < w.heap.size := heap_lt h
theorem Blk.cell (h : Blk w g t cs) (i : Nat) : w.cell? ⟨g, i, none⟩ = cs[i]? := by
  have := cell_of_row w g i cs.toArray t (0, 0) h
  simpa using this
theorem Blk.frozen (h : Blk w g t cs) (i : Nat) : w.frozen? ⟨g, i, none⟩ = false := by
  unfold Blk at h
  simp [World.frozen?, h]
theorem Blk.new (w : World) (t : TypeId) (cs : List Value) : Blk (w.alloc (.cells cs.toArray t)) w.heap.size t cs := heap_alloc_new w _
theorem Blk.drew (h : Blk w g t cs) : Blk w.drew g t cs := h
theorem Blk.drewN (h : Blk w g t cs) (n : Nat) : Blk (w.drewN n) g t cs := h
theorem Blk.alloc (h : Blk w g t cs) (o : Obj) : Blk (w.alloc o) g t cs := (Below.heap_alloc w o g h.lt).trans h
theorem Blk.set_ (h : Blk w g t cs) (i : Nat) (u : Value) : Blk (w.setCell ⟨g, i, none⟩ u) g t (cs.set i u) := by
  unfold Blk at h ⊢
  simp [World.setCell, Array.getElem?_modify, h]
theorem Blk.far (h : Blk w g t cs) {p : Addr} (hp : g ≠ p.block) (u : Value) : Blk (w.setCell p u) g t cs := (Below.heap_setCell w p u g hp).trans h
theorem Blk.mod (h : Blk w g t cs) (hb : Mod S w w') (hg : g ∉ S) : Blk w' g t cs := (hb.block g h.lt hg).trans h
theorem Blk.grown {row : Option Nat} (h : Blk w g t cs) (hb : w.grownBy w' row) (hg : some g ≠ row) : Blk w' g t cs := (hb.block g h.lt hg).trans h
theorem Blk.ne_ {g' : Nat} {t' : TypeId} {cs' : List Value} (h : Blk w g t cs) (h' : Blk w g' t' cs') (hne : t ≠ t') : g ≠ g' := by
  rintro rfl
  unfold Blk at h h'
  rw [h] at h'
  injection h' with h'
  injection h' with _ ht
  exact hne ht
theorem Blk.own {base size n : Nat} (h : Blk w g t cs) (hb : base ≤ g) (hm : n ≤ maxLen) (hs : cs.length = n * size) : w.ownsRow base t size (.slice (some ⟨g, 0, none⟩) n n) n cs :=
  ⟨hs, .inr ⟨g, n, cs.toArray, rfl, hb, h, Nat.le_refl _, hm, by simpa using hs, by rw [← hs]; simp⟩⟩
end

/-- Elements as cells, one behind the other. -/
def flat {α : Type} (enc : α → List Value) (xs : List α) : List Value := (xs.map enc).flatten

section
variable {α : Type} {enc : α → List Value} {sz : Nat}
theorem flat_nil : flat enc ([] : List α) = [] := rfl
theorem flat_cons (x : α) (xs : List α) : flat enc (x :: xs) = enc x ++ flat enc xs := rfl
theorem flat_append (xs ys : List α) : flat enc (xs ++ ys) = flat enc xs ++ flat enc ys := by simp [flat]
theorem flat_one (x : α) : flat enc [x] = enc x := by simp [flat]
theorem flat_length (h : ∀ a, (enc a).length = sz) (xs : List α) : (flat enc xs).length = xs.length * sz := by
  induction xs with
  | nil => simp [flat]
  | cons x xs ih => rw [flat_cons, List.length_append, h, ih, List.length_cons, Nat.succ_mul]; omega
theorem flat_get (h : ∀ a, (enc a).length = sz) (xs : List α) (i j : Nat) (hj : j < sz) : (flat enc xs)[i * sz + j]? = xs[i]?.bind fun a => (enc a)[j]? := by
  induction xs generalizing i with
  | nil => simp [flat]
  | cons x xs ih =>
    rw [flat_cons]
    cases i with
    | zero =>
      rw [Nat.zero_mul, Nat.zero_add, List.getElem?_append_left (by rw [h]; exact hj)]
      simp
    | succ i =>
      rw [Nat.succ_mul, List.getElem?_append_right (by rw [h]; omega), h, show i * sz + sz + j - sz = i * sz + j from by omega, ih]
      simp
theorem flat_drop (h : ∀ a, (enc a).length = sz) (xs : List α) (i : Nat) : (flat enc xs).drop (i * sz) = flat enc (xs.drop i) := by
  induction xs generalizing i with
  | nil => simp [flat]
  | cons x xs ih =>
    cases i with
    | zero => simp
    | succ i =>
      rw [flat_cons, Nat.succ_mul, List.drop_succ_cons, ← ih, Nat.add_comm, ← List.drop_drop, List.drop_left' (h x)]
theorem flat_take (h : ∀ a, (enc a).length = sz) (xs : List α) (i : Nat) : (flat enc xs).take (i * sz) = flat enc (xs.take i) := by
  induction xs generalizing i with
  | nil => simp [flat]
  | cons x xs ih =>
    cases i with
    | zero => simp [flat]
    | succ i =>
      rw [List.take_succ_cons, flat_cons, flat_cons, ← ih, Nat.succ_mul, Nat.add_comm, List.take_add, List.take_left' (h x), List.drop_left' (h x)]
theorem flat_snoc {xs : List α} {k : Nat} {x : α} (h : xs[k]? = some x) : flat enc (xs.take k) ++ enc x = flat enc (xs.take (k + 1)) := by
  have hk : k < xs.length := by
    rcases Nat.lt_or_ge k xs.length with h1 | h1
    · exact h1
    · rw [List.getElem?_eq_none h1] at h; cases h
  rw [List.take_succ_eq_append_getElem hk, flat_append, flat_one]
  rw [List.getElem?_eq_getElem hk] at h
  injection h with h
  rw [h]
theorem lt_of_some {xs : List α} {k : Nat} {x : α} (h : xs[k]? = some x) : k < xs.length := by
  rcases Nat.lt_or_ge k xs.length with h1 | h1
  · exact h1
  · rw [List.getElem?_eq_none h1] at h; cases h
theorem flat_set (h : ∀ a, (enc a).length = sz) (xs : List α) (i : Nat) (hi : i < xs.length) (x : α) : (flat enc xs).take (i * sz) ++ (enc x ++ (flat enc xs).drop (i * sz + sz)) = flat enc (xs.set i x) := by
  rw [flat_take h, ← Nat.succ_mul, flat_drop h, List.set_eq_take_append_cons_drop, if_pos hi, flat_append, flat_cons]
end
end Go.Proofs.Ytkndpdmopgmlcaa
end
section
/- maps.Keys at maps of uint64 to int: the iterator gives each key once (the kit's worked walk turned by wip/turn_u64.py). -/
namespace Go.Proofs.Ytkndpdmopgmlcaa
open Go.RowKit Go.Maps
abbrev encU (x : Int) : Value := .int .u64 x
theorem encU_inj {x y : Int} (h : encU x = encU y) : x = y := by injection h
abbrev wfU (x : Int) : Prop := (Lit.int .u64 x).wf = true
def CollU (D0 : DataW Unit) (left : Lit → Bool) (ss : List Int) : Prop := ss.Nodup ∧ (∀ x ∈ ss, wfU x) ∧ ∀ x, wfU x → (x ∈ ss ↔ (has D0 (.int .u64 x) = true ∧ left (.int .u64 x) = false))
/-- All keys, each once. -/
def GivenU (D0 : DataW Unit) (ss : List Int) : Prop := ss.Nodup ∧ (∀ x ∈ ss, wfU x) ∧ ∀ x, wfU x → (x ∈ ss ↔ has D0 (.int .u64 x) = true)
theorem CollU.start (D0 : DataW Unit) : CollU D0 (has D0) [] := ⟨List.nodup_nil, (fun _ h => by cases h), fun x _ => by cases has D0 (.int .u64 x) <;> simp⟩
theorem CollU.step {D0 : DataW Unit} {left : Lit → Bool} {ss : List Int} (h : CollU D0 left ss) {x : Int} (hx : wfU x) {y : DataW Unit} (hlk : left (.int .u64 x) = true) (hat : ∀ zd, D0.atKey (.int .u64 x) zd = y) : CollU D0 (fun z => left z && !z.sameKey (.int .u64 x)) (ss ++ [x]) := by
  obtain ⟨h1, h2, h3⟩ := h
  have hn : x ∉ ss := fun hm => by have := ((h3 x hx).1 hm).2; rw [hlk] at this; cases this
  have hkey := (int_keyed Try.underlying41).key (Maps.keyOf_int_mk Try.underlying41 hx)
  refine ⟨?_, ?_, fun z hz => ?_⟩
  · rw [List.nodup_append]
    exact ⟨h1, by simp, fun a ha b hb => by rw [List.mem_singleton] at hb; subst hb; rintro rfl; exact hn ha⟩
  · intro z hz
    rcases List.mem_append.1 hz with hz | hz
    · exact h2 z hz
    · rw [List.mem_singleton] at hz
      subst hz
      exact hx
  · rw [List.mem_append, List.mem_singleton, h3 z hz]
    by_cases e : z = x
    · subst e
      simp [WideAt.sameKey_self hkey, has_true_of_atKey hat]
    · have hne : (Lit.int .u64 z).sameKey (.int .u64 x) = false := by
        cases hs : (Lit.int .u64 z).sameKey (.int .u64 x)
        · rfl
        · exact absurd (by have := WideAt.sameKey_eq hs; injection this) e
      simp [e, hne]
theorem CollU.done {D0 : DataW Unit} {left : Lit → Bool} {ss : List Int} (h : CollU D0 left ss) (hl : ∀ k, left k = false) : GivenU D0 ss :=
  ⟨h.1, h.2.1, fun x hx => by rw [h.2.2 x hx, hl]; simp⟩
set_option maxRecDepth 100000 in
set_option maxHeartbeats 1000000 in
theorem ukeys1N_in (F : Fence) (n : Nat) (h10 : F.fn 129) (hro : F.round = none) (hn : 1 ≤ n) (l Bm Om b nn : Nat) (D0 : DataW Unit) {R : Value → Option (DataW Unit × List MemPlace)} (J : List Int → World → Prop)
    (hY : ∀ pre x W, J pre W → pre.length < Maps.size D0 → YieldAt F (n - 1) Try.prog l #[encU x] W fun e W' => e = .returned (.bool true) ∧ J (pre ++ [x]) W' ∧ KeepsWalks W W')
    (W : World) (hJ : AbidesFrom W.heap.size J) (hm : W.cell? ⟨Bm, Om, none⟩ = some (.map (some b))) (hown : W.ownsMap Try.prog 41 R b nn D0) (h0 : J [] W) :
    CallsIn F n Try.prog 129 #[.func (.yield l) #[] #[], .pointer (some ⟨Bm, Om, none⟩)] W fun e W' => (∃ v, e = .returned v) ∧ ∃ ss : List Int, GivenU D0 ss ∧ J ss W' := by
  refine callsIn_of_wp Try.func129 rfl h10 ?_ hro
  simp only [Try.ntmps129, List.size_toArray, List.length_cons, List.length_nil, Nat.reduceAdd, Nat.reduceSub, Array.replicate_succ, Array.replicate_zero, List.push_toArray, List.append_toArray, List.nil_append, List.cons_append]
  gi_wp2_with (first
    | (gi_at_range; refine wpListIn_range_own _ rfl _ 176 rfl 41 3 (int_keyed Try.underlying41) Try.underlying176 _ b nn _ rfl hown ?_; intro w0 hrg0 hg0 hs0)
    | gi_in)
  go_frame
  gi_loopw [3] (fun _ wr => ∃ (left : Lit → Bool) (cnt : Nat) (ss : List Int), wr.ranges Try.prog 41 R b W.heap.size nn D0 left cnt ∧ ss.length + cnt ≤ Maps.size D0 ∧ CollU D0 left ss ∧ J ss wr)
    (fun _ wr => wr.rangeLeft b W.heap.size)
  case atStart =>
    exact ⟨_, _, [], hrg0, by simp, CollU.start D0, hJ [] W w0 none h0 hg0 (fun r e => by cases e)⟩
  case round =>
    obtain ⟨left, cnt, ss, hrg, hcs, hC, hJs⟩ := hrel
    gi_wp2_with (first
      | (gi_at_next; refine wpListIn_next_ranges _ rfl _ rfl 41 (int_keyed Try.underlying41) R encU id (fun key kl hk => by obtain ⟨x, hx, _⟩ := Maps.keyOf_int_inv Try.underlying41 hk; exact ⟨x, hx⟩) (fun v _ _ => ⟨v, rfl⟩) b W.heap.size nn _ _ _ rfl hrg ?_ ?_)
      | gi_in)
    · -- NOTHING IS LEFT
      intro hc0 hl0
      gi_wp2
      go_end0
      exact ⟨⟨_, rfl⟩, ss, hC.done hl0, hJs⟩
    · -- AN ENTRY HAS COME: yield(k)
      intro x c kl yd yp w2 cnt2 hkey hlk hv hat hrg2 hlt hg2 hs2 hen
      obtain ⟨x', ex, rfl, hwx⟩ := Maps.keyOf_int_inv Try.underlying41 hkey
      obtain rfl : x = x' := encU_inj ex
      have hJ2 : J ss w2 := hJ ss wr w2 (some W.heap.size) hJs hg2 (fun r e => by cases e; exact ⟨Nat.le_refl _, hrg.iter_walk⟩)
      obtain ⟨fn, tmps, assign, body, hy, hR⟩ := hY ss x w2 hJ2 (by omega)
      clear hs2
      gi_wp2
      refine hR.mono ?_
      rintro e W3 ⟨rfl, hJ3, hk3⟩
      gi_wp2
      have hrg3 := hrg2.of_walks hk3
      go_roundw
      case rel => exact ⟨_, cnt2, ss ++ [x], hrg3, by simp; omega, hC.step hwx hlk hat, hJ3⟩
      case measure => rw [hrg3.left_eq, hrg.left_eq]; exact hlt


theorem ukeys_gives (F : Fence) (n : Nat) (h10 : F.fn 129) (hro : F.round = none) (hn : 1 ≤ n) (Bm Om b nn : Nat) (D0 : DataW Unit) {R : Value → Option (DataW Unit × List MemPlace)} (w : World) (hBm : Bm < w.heap.size)
    (hm : w.cell? ⟨Bm, Om, none⟩ = some (.map (some b))) (hown : w.ownsMap Try.prog 41 R b nn D0) :
    SeqGives F n Try.prog 129 #[.pointer (some ⟨Bm, Om, none⟩)] encU (fun ss => GivenU D0 ss) (Maps.size D0) w := fun l J W hW hJ hY h0 => by
  have hown' : W.ownsMap Try.prog 41 R b nn D0 := by
    have hbl := hown.lt
    obtain ⟨es, clock, hb, Ft, hs, hD⟩ := hown
    exact ⟨es, clock, (hW.block b hbl).trans hb, Ft, hs, hD⟩
  exact ukeys1N_in F n h10 hro hn l Bm Om b nn D0 J hY W hJ ((hW.cell (p := ⟨Bm, Om, none⟩) hBm).trans hm) hown' h0

set_option maxHeartbeats 1000000 in
theorem ukeys_in (F : Fence) (n : Nat) (h7 : F.fn 101) (hro : F.round = none) (mb : Option Nat) (w : World) :
    CallsIn F n Try.prog 101 #[.map mb] w fun e w' => e = .returned (.func (.func 129) #[] #[.pointer (some ⟨w.heap.size, 0, none⟩)]) ∧ w' = w.alloc (.cells #[.map mb] 176) := by
  refine callsIn_of_wp Try.func101 rfl h7 ?_ hro
  simp only [Try.ntmps101, List.size_toArray, List.length_cons, List.length_nil, Nat.reduceAdd, Nat.reduceSub, Array.replicate_succ, Array.replicate_zero, List.push_toArray, List.append_toArray, List.nil_append, List.cons_append]
  gi_wp2
  go_ret
  exact ⟨rfl, rfl⟩

end Go.Proofs.Ytkndpdmopgmlcaa
end
section
/- slices.AppendSeq(nil, seq), slices.Collect(seq) at uint64 (the kit's worked walk turned by wip/turn_u64.py). -/
namespace Go.Proofs.Ytkndpdmopgmlcaa
open Go.RowKit Go.Maps Go.Sort
theorem info_u64 : (Try.prog.info? 41).map (fun i => (i.zero, i.size, i.bytes)) = some (some (.int .u64 0), 1, 8) := by kernel_rfl
def uapAssign : Code := (Code.region 2 #[{ dst := some 5, op := Op.assign (Operand.tmp 7), type := 41, pos := "iter.go:51", after := #[], guard := none }] false)
def uapBody : Code := (Code.block 1 (Code.region 3 #[{ dst := some 8, op := Op.load 96 (Operand.tmp 2), type := 96, pos := "iter.go:52", after := #[], guard := none }, { dst := some 9, op := Op.move (Operand.tmp 5), type := 41, pos := "iter.go:52", after := #[], guard := none }, { dst := some 10, op := Op.buildSlice 96 1 #[(0, Operand.tmp 9)], type := 96, pos := "iter.go:52", after := #[{ on := 1, ground := Ground.data }], guard := none }, { dst := some 11, op := Op.call { callee := Callee.builtin Builtin.append, args := #[Operand.tmp 8, Operand.tmp 10], argTypes := #[96, 96] }, type := 96, pos := "iter.go:52", after := #[{ on := 0, ground := Ground.data }, { on := 2, ground := Ground.data }], guard := none }, { dst := none, op := Op.store 96 (Operand.tmp 2) (Operand.tmp 11), type := 0, pos := "iter.go:52", after := #[{ on := 3, ground := Ground.data }, { on := 3, ground := Ground.chain }, { on := 0, ground := Ground.phase }, { on := 1, ground := Ground.phase }, { on := 2, ground := Ground.phase }, { on := 3, ground := Ground.phase }], guard := none }] false))
def uapRec (fn : FuncId) (sv : Value) (Bs D : Nat) (st : LoopState) (pend : Option Code) : Loop :=
  { state := st, pending := pend, fn, tmps := #[.slice none 0 0, sv, .pointer (some ⟨Bs, 0, none⟩), undef, .slice none 0 0, undef, sv, undef, undef, undef, undef, undef, undef], params := #[7], assign := uapAssign, body := uapBody, defers := D }

structure uApAt (w0 : World) (fn : FuncId) (sv : Value) (Bs l D : Nat) (ss : List Int) (W : World) : Prop where
  box : ∃ v, W.heap[Bs]? = some (.cells #[v] 96 (0, 0)) ∧ W.ownsRow w0.heap.size 41 1 v ss.length (ss.map encU) ∧ (v = .slice none 0 0 ↔ ss = [])
  L : W.heap[l]? = some (.loop (uapRec fn sv Bs D .ready none))
  K : W.heap[D]? = some (.deferred (some []))
  below : Below w0.heap.size w0 W

theorem uap_abides (w0 : World) (fn : FuncId) (sv : Value) (Bs l D B : Nat) (hB : w0.heap.size ≤ B) : AbidesFrom B (uApAt w0 fn sv Bs l D) := fun s W W' row h hg hrow => by
  have hrow' : ∀ r, row = some r → ∃ o : Obj, W.heap[r]? = some o ∧ o.isWalk = true := fun r e => (hrow r e).2
  obtain ⟨v, hv, hr, hn⟩ := h.box
  exact ⟨⟨v, (grownBy_keeps hg hrow' hv rfl).trans hv, ownsRow_abides_a hr hg hrow', hn⟩, (grownBy_keeps hg hrow' h.L rfl).trans h.L, (grownBy_keeps hg hrow' h.K rfl).trans h.K,
    h.below.grown hg h.below.size (fun k e => Nat.le_trans hB (hrow k e).1)⟩

set_option maxRecDepth 100000 in
set_option maxHeartbeats 2000000 in
theorem uapYield (F : Fence) (m : Nat) (w0 : World) (fn : FuncId) (hfn : F.fn fn) (sv : Value) (Bs l D : Nat) (hBl : Bs ≠ l) (hDl : D ≠ l) (hDB : D ≠ Bs) (h0B : w0.heap.size ≤ Bs) (h0l : w0.heap.size ≤ l)
    (N : Nat) (hN : N ≤ maxLen) (hNb : N * 8 ≤ 140737488355328) (ss : List Int) (x : Int) (W : World) (h : uApAt w0 fn sv Bs l D ss W) (hlen : ss.length < N) :
    YieldAt F m Try.prog l #[encU x] W fun e W' => e = .returned (.bool true) ∧ uApAt w0 fn sv Bs l D (ss ++ [x]) W' ∧ KeepsWalks W W' := by
  have hne : (96 : TypeId) ≠ 41 := by decide
  obtain ⟨i0, hi, hz0, hz1, hz2⟩ := info_parts info_u64
  obtain ⟨v, hv, hrow, _⟩ := h.box
  refine ⟨fn, #[.slice none 0 0, sv, .pointer (some ⟨Bs, 0, none⟩), undef, .slice none 0 0, undef, sv, encU x, undef, undef, undef, undef, undef], uapAssign, uapBody, by simpa [uapRec] using run_yield (P := Try.prog) (args := #[encU x]) h.L rfl, roundIn_of_wpIn hfn ?_⟩
  have hl : l < W.heap.size := (Array.getElem?_eq_some_iff.1 h.L).1
  have hbr := run_beginRound (P := Try.prog) h.L rfl
  obtain ⟨W2, hW2⟩ : ∃ W2, W.putObj l (.loop { uapRec fn sv Bs D .ready none with state := .busy }) = W2 := ⟨_, rfl⟩
  rw [hW2] at hbr
  have hg2 : W.grownBy W2 (some l) := by rw [← hW2]; exact grownBy_putObj_a _ _ _
  have hk2 : KeepsWalks W W2 := by rw [← hW2]; exact KeepsWalks.putObj _ h.L rfl
  have hv2 : W2.heap[Bs]? = some (.cells #[v] 96 (0, 0)) := by rw [← hW2]; exact (World.putObj_heap_other hBl).trans hv
  have hK2 : W2.heap[D]? = some (.deferred (some [])) := by rw [← hW2]; exact (World.putObj_heap_other hDl).trans h.K
  have hL2 : W2.heap[l]? = some (.loop { uapRec fn sv Bs D .ready none with state := .busy }) := by rw [← hW2]; exact World.putObj_heap_same hl
  have hrow2 : W2.ownsRow w0.heap.size 41 1 v ss.length (ss.map encU) := hrow.kept hg2 (ownsRow_ne_a hrow h.L (fun cur e => by first | cases e | exact hne (Obj.cells.inj e).2.1))
  have hb2 : Below w0.heap.size w0 W2 := h.below.grown hg2 h.below.size (fun k e => by cases e; exact h0l)
  obtain ⟨hc2, hf2⟩ := cell_of_box_a hv2
  have hBlt : Bs < W2.heap.size := (Array.getElem?_eq_some_iff.1 hv2).1
  have hl2 : l < W2.heap.size := (Array.getElem?_eq_some_iff.1 hL2).1
  have hDlt : D < W2.heap.size := (Array.getElem?_eq_some_iff.1 hK2).1
  have ne_of : ∀ {j : Nat} {o : Obj}, W2.heap[j]? = some o → (∀ cur, o ≠ .cells cur 41 (0, 0)) → some j ≠ v.ownBlock := fun hj hno => by
    rcases ownsRow_ne_a hrow2 hj hno with e | e
    · rw [e]; simp
    · exact fun e' => e e'.symm
  clear hW2
  unfold uapAssign
  gi_wp2_with gi_round_op_a
  unfold uapBody
  gi_wp2_with (first
    | (gi_at_builtin; refine wpListIn_append_own _ rfl _ _ 96 rfl w0.heap.size 41 i0 (.int .u64 0) 1 8 Try.underlying96 hi hz0 hz1 hz2 rfl (by decide) _ _ _ rfl (hrow2.alloc _) ⟨W2.heap.size, 0, none⟩ 1 1 [encU x] rfl rfl (cell_one_new _ _ _) (by simp [Value.oneCell', encU]) (by omega) (by omega) (by have := hb2.size; simp; omega) ?_; intro v' w3 hown' hg3 hnil3
       have hv3 : w3.heap[Bs]? = some (.cells #[v] 96 (0, 0)) := (hg3.block Bs (by simp; omega) (ne_of hv2 (fun cur e => by first | cases e | exact hne (Obj.cells.inj e).2.1))).trans ((Below.heap_alloc _ _ Bs hBlt).trans hv2)
       obtain ⟨hc3, hf3⟩ := cell_of_box_a hv3
       obtain ⟨g', cap', cur', rfl, hbase', hgb', hr1, hr2, hr3, hr4⟩ : ∃ g' cap' cur', v' = .slice (some ⟨g', 0, none⟩) (ss.length + 1) cap' ∧ w0.heap.size ≤ g' ∧ w3.heap[g']? = some (.cells cur' 41 (0, 0)) ∧ ss.length + 1 ≤ cap' ∧ cap' ≤ maxLen ∧ cur'.size = cap' * 1 ∧ cur'.toList.take ((ss.length + 1) * 1) = ss.map encU ++ [encU x] := by
         rcases hown'.2 with ⟨_, h0⟩ | h'
         · exact absurd h0 (by omega)
         · exact h'
       go_frame)
    | gi_round_op_a)
  have hg3' : (W2.alloc (.cells #[encU x] 41)).grownBy w3 v.ownBlock := hg3
  have hL3 : w3.heap[l]? = some (.loop { uapRec fn sv Bs D .ready none with state := .busy }) := (hg3'.block l (by simp; omega) (ne_of hL2 (fun cur e => by first | cases e | exact hne (Obj.cells.inj e).2.1))).trans ((Below.heap_alloc _ _ l hl2).trans hL2)
  have hK3 : w3.heap[D]? = some (.deferred (some [])) := (hg3'.block D (by simp; omega) (ne_of hK2 (fun cur e => by first | cases e | exact hne (Obj.cells.inj e).2.1))).trans ((Below.heap_alloc _ _ D hDlt).trans hK2)
  obtain ⟨w4, hw4⟩ : ∃ w4, w3.setCell ⟨Bs, 0, none⟩ (.slice (some ⟨g', 0, none⟩) (ss.length + 1) cap') = w4 := ⟨_, rfl⟩
  rw [hw4]
  have hg4 : w3.grownBy w4 (some Bs) := by rw [← hw4]; exact grownBy_setCell0_a _ _ _
  have hv4 : w4.heap[Bs]? = some (.cells #[.slice (some ⟨g', 0, none⟩) (ss.length + 1) cap'] 96 (0, 0)) := by rw [← hw4]; exact heap_setCell_box_a _ hv3
  have hL4 : w4.heap[l]? = some (.loop { uapRec fn sv Bs D .ready none with state := .busy }) := (hg4.block l (Array.getElem?_eq_some_iff.1 hL3).1 (fun e => hBl (by cases e; rfl))).trans hL3
  have hK4 : w4.heap[D]? = some (.deferred (some [])) := (hg4.block D (Array.getElem?_eq_some_iff.1 hK3).1 (fun e => hDB (by cases e; rfl))).trans hK3
  have hrow4 := hown'.kept hg4 (ownsRow_ne_a hown' hv3 (fun cur e => by first | cases e | exact hne (Obj.cells.inj e).2.1))
  have hl4 : l < w4.heap.size := (Array.getElem?_eq_some_iff.1 hL4).1
  have hb3 : Below w0.heap.size w0 w3 := (hb2.alloc hb2.size _).grown hg3' (by have := hb2.size; simp; omega) (fun k e => (hrow2.lt k e).1)
  have hb4 : Below w0.heap.size w0 w4 := hb3.grown hg4 hb3.size (fun k e => by cases e; exact h0B)
  have hk4 : KeepsWalks W w4 := ((hk2.trans (KeepsWalks.alloc _ _)).trans (KeepsWalks.of_grownBy hg3' (ownsRow_not_walk_a (hrow2.alloc _)))).trans (by rw [← hw4]; exact KeepsWalks.setCell _ _ _)
  clear hw4
  refine ⟨_, _, run_endRound none hL4, rfl, ⟨⟨_, (World.putObj_heap_other hBl).trans hv4, ?_, by simp⟩, World.putObj_heap_same hl4, (World.putObj_heap_other hDl).trans hK4, hb4.grown (grownBy_putObj_a _ _ _) hb4.size (fun k e => by cases e; exact h0l)⟩, hk4.trans (KeepsWalks.putObj _ hL4 rfl)⟩
  have := hrow4.kept (grownBy_putObj_a w4 l (.loop { { uapRec fn sv Bs D .ready none with state := .busy } with state := if (none : Option Code).isNone then .ready else .done, pending := none })) (ownsRow_ne_a hrow4 hL4 (fun cur e => by first | cases e | exact hne (Obj.cells.inj e).2.1))
  simpa using this


set_option maxRecDepth 100000 in
set_option maxHeartbeats 2000000 in
theorem uappendSeq_in (F : Fence) (n : Nat) (h11 : F.fn 146) (hro : F.round = none) (hn : 2 ≤ n) (g : Nat) (lb : Array Value) (hFg : F.fn g) (eg : ∀ args w, (callFunc g args).run Try.prog w = .ok (.enter g args) w)
    (S : List Int → Prop) (N : Nat) (hN : N ≤ maxLen) (hNb : N * 8 ≤ 140737488355328) (w : World) (hseq : SeqGives F (n - 1) Try.prog g lb encU S N w) :
    CallsIn F n Try.prog 146 #[.slice none 0 0, .func (.func g) #[] lb] w fun e w' => ∃ (v : Value) (ss : List Int), e = .returned v ∧ S ss ∧ w'.ownsRow w.heap.size 41 1 v ss.length (ss.map encU) ∧ (v = .slice none 0 0 ↔ ss = []) ∧ Below w.heap.size w w' := by
  have h1 : 1 ≤ n := by omega
  have hne : (96 : TypeId) ≠ 41 := by decide
  refine callsIn_of_wp_marks Try.func146 rfl h11 ?_ hro
  simp only [Try.ntmps146, List.size_toArray, List.length_cons, List.length_nil, Nat.reduceAdd, Nat.reduceSub, Array.replicate_succ, Array.replicate_zero, List.push_toArray, List.append_toArray, List.nil_append, List.cons_append]
  gi_wp2
  refine wpIn_rangeFunc ?_
  intro fn hfn
  rw [hro]
  obtain ⟨W0, hW0⟩ : ∃ W0, w.alloc (.cells #[.slice none 0 0] 96) = W0 := ⟨_, rfl⟩
  have hs0 : W0.heap.size = w.heap.size + 1 := by rw [← hW0]; simp
  have hv0 : W0.heap[w.heap.size]? = some (.cells #[.slice none 0 0] 96 (0, 0)) := by rw [← hW0]; exact World.alloc_heap_new w _
  have hb0 : Below w.heap.size w W0 := by rw [← hW0]; exact (Below.refl _ w).alloc (Nat.le_refl _) _
  rw [hW0]
  obtain ⟨W1, hW1⟩ : ∃ W1, (W0.alloc (.deferred (some []))).alloc (.loop (uapRec fn (.func (.func g) #[] lb) w.heap.size W0.heap.size .ready none)) = W1 := ⟨_, rfl⟩
  have hold : ∀ k, k < W0.heap.size → W1.heap[k]? = W0.heap[k]? := fun k hk => by
    rw [← hW1]; exact (Below.heap_alloc _ _ k (by simp; omega)).trans (Below.heap_alloc _ _ k hk)
  have hb1 : Below w.heap.size w W1 := by rw [← hW1]; exact (hb0.alloc hb0.size _).alloc (by have := hb0.size; simp; omega) _
  have hs1 : W1.heap.size = W0.heap.size + 2 := by rw [← hW1]; simp
  have hM : uApAt w fn (.func (.func g) #[] lb) w.heap.size (W0.heap.size + 1) W0.heap.size [] W1 :=
    ⟨⟨_, (hold w.heap.size (by omega)).trans hv0, ⟨rfl, .inl ⟨rfl, rfl⟩⟩, by simp⟩,
     by rw [← hW1]; have := World.alloc_heap_new (W0.alloc (.deferred (some []))) (.loop (uapRec fn (.func (.func g) #[] lb) w.heap.size W0.heap.size .ready none)); rwa [World.size_alloc] at this,
     by rw [← hW1]; exact (Below.heap_alloc _ _ _ (by simp)).trans (World.alloc_heap_new W0 _), hb1⟩
  refine ⟨W0.heap.size + 1, [{ target := .collected W0.heap.size, args := #[] }], W1, { target := .fn (.func g) lb, args := #[.func (.yield (W0.heap.size + 1)) #[] #[]] }, W1, g,
    #[.func (.yield (W0.heap.size + 1)) #[] #[]] ++ lb, W1, ?_, ?_, ?_, ?_, fun _ => h1, ?_⟩
  · rw [← hW1]; exact run_enterLoop_outer _ _ _ _ _
  · simp [resolve, go_sem]
  · intro f' hf'; simp [Target.leads] at hf'; subst hf'; exact hFg
  · simp [invoke, go_sem, eg]
  · refine (hseq (W0.heap.size + 1) (uApAt w fn (.func (.func g) #[] lb) w.heap.size (W0.heap.size + 1) W0.heap.size) W1 hb1 (uap_abides _ _ _ _ _ _ _ hb1.size)
      (fun pre x W hJ hl => uapYield F (n - 1 - 1) w fn hfn _ w.heap.size (W0.heap.size + 1) W0.heap.size (by omega) (by omega) (by omega) (Nat.le_refl _) (by omega) N hN hNb pre x W hJ hl) hM).mono ?_
    rintro e W2 ⟨⟨v0, rfl⟩, ss, hS, h2⟩
    obtain ⟨v, hv, hrow, hnil⟩ := h2.box
    have hend := run_endLoop (P := Try.prog) h2.L (by simp [uapRec])
    obtain ⟨W3, hW3⟩ : ∃ W3, W2.putObj (W0.heap.size + 1) (.loop { uapRec fn (.func (.func g) #[] lb) w.heap.size W0.heap.size .ready none with state := .exhausted }) = W3 := ⟨_, rfl⟩
    rw [hW3] at hend
    have hg3 : W2.grownBy W3 (some (W0.heap.size + 1)) := by rw [← hW3]; exact grownBy_putObj_a _ _ _
    have hv3 : W3.heap[w.heap.size]? = some (.cells #[v] 96 (0, 0)) := by rw [← hW3]; exact (World.putObj_heap_other (by omega)).trans hv
    have hK3 : W3.heap[W0.heap.size]? = some (.deferred (some [])) := by rw [← hW3]; exact (World.putObj_heap_other (by omega)).trans h2.K
    have hrow3 := hrow.kept hg3 (ownsRow_ne_a hrow h2.L (fun cur e => by first | cases e | exact hne (Obj.cells.inj e).2.1))
    have hb3 : Below w.heap.size w W3 := h2.below.grown hg3 h2.below.size (fun k e => by cases e; omega)
    obtain ⟨hc3, hf3⟩ := cell_of_box_a hv3
    clear hW3
    refine ⟨none, W3, hend, ?_⟩
    gi_wp2
    rw [← hs0]
    refine ⟨by simp, .inl ⟨_, _, rfl, run_takeDeferred hK3, ?_⟩⟩
    exact ⟨_, results_tmp rfl _ _ _, v, ss, rfl, hS, hrow3.kept (grownBy_putObj_a _ _ _) (ownsRow_ne_a hrow3 hK3 (fun cur e => by first | cases e | exact hne (Obj.cells.inj e).2.1)), hnil, hb3.grown (grownBy_putObj_a _ _ _) hb3.size (fun k e => by cases e; omega)⟩


set_option maxHeartbeats 1000000 in
theorem ucollect_in (F : Fence) (n : Nat) (h8 : F.fn 127) (h11 : F.fn 146) (hro : F.round = none) (hn : 3 ≤ n) (g : Nat) (lb : Array Value) (hFg : F.fn g) (eg : ∀ args w, (callFunc g args).run Try.prog w = .ok (.enter g args) w)
    (S : List Int → Prop) (N : Nat) (hN : N ≤ maxLen) (hNb : N * 8 ≤ 140737488355328) (w : World) (hseq : SeqGives F (n - 1 - 1) Try.prog g lb encU S N w) :
    CallsIn F n Try.prog 127 #[.func (.func g) #[] lb] w fun e w' => ∃ (v : Value) (ss : List Int), e = .returned v ∧ S ss ∧ w'.ownsRow w.heap.size 41 1 v ss.length (ss.map encU) ∧ (v = .slice none 0 0 ↔ ss = []) ∧ Below w.heap.size w w' := by
  have h1 : 1 ≤ n := by omega
  refine callsIn_of_wp Try.func127 rfl h8 ?_ hro
  simp only [Try.ntmps127, List.size_toArray, List.length_cons, List.length_nil, Nat.reduceAdd, Nat.reduceSub, Array.replicate_succ, Array.replicate_zero, List.push_toArray, List.append_toArray, List.nil_append, List.cons_append]
  gi_wp2_with fail
  refine (uappendSeq_in F (n - 1) h11 hro (by omega) g lb hFg eg S N hN hNb _ hseq).mono ?_
  rintro e w' ⟨v, ss, rfl, hS, hrow, hnil, hb⟩
  gi_wp2
  go_ret
  exact ⟨v, ss, rfl, hS, hrow, hnil, hb⟩

end Go.Proofs.Ytkndpdmopgmlcaa
end
section
/- An executor for functions of the program over a small memory of named pieces: definitions alone. No condition. -/
namespace Go.Proofs.Ytkndpdmopgmlcaa

/-- A value in which blocks go by names. -/
inductive SV where
  | v (x : Value)
  | ptr (n off : Nat)
  | sl (n off idx len : Nat)
  | slE (n : Nat)
  | tptr (n i j : Nat)
  | tsl (n len : Nat)
  | mp (n : Nat)
  | ifc (t : TypeId) (x : SV)
  | agg (l : List SV)
  | tup (l : List SV)
  | clo (fn : Fn) (first cap : List SV)
  deriving Inhabited

/-- What stands behind a name: a block, and where in it; how many elements it has room for; of a table how wide and long it is; an address. -/
structure Spot where
  b : Nat
  cap : Nat
  off : Nat
  sz : Nat
  len : Nat
  ad : Option Addr

abbrev Names := Nat → Option Spot

mutual
def den (ρ : Names) : SV → Option Value
  | .v x => some x
  | .ptr n off => (ρ n).map fun e => .pointer (some ⟨e.b, e.off + off, none⟩)
  | .sl n off idx len => (ρ n).map fun e => .slice (some ⟨e.b, e.off + off, none⟩) len (e.cap - idx)
  | .slE n => (ρ n).map fun e => .slice e.ad 0 e.cap
  | .tptr n i j => match ρ n with
    | some e => if i < e.len then some (.pointer (some ⟨e.b, e.off + i * e.sz + j, none⟩)) else none
    | none => none
  | .tsl n len => (ρ n).map fun e => .slice e.ad len e.cap
  | .mp n => (ρ n).map fun e => .map (some e.b)
  | .ifc t x => (den ρ x).map (.iface t)
  | .agg l => (denL ρ l).map fun vs => .agg vs.toArray
  | .tup l => (denL ρ l).map fun vs => .tuple vs.toArray
  | .clo fn f c => match denL ρ f, denL ρ c with
    | some a, some b => some (.func fn a.toArray b.toArray)
    | _, _ => none
def denL (ρ : Names) : List SV → Option (List Value)
  | [] => some []
  | x :: l => match den ρ x, denL ρ l with
    | some a, some b => some (a :: b)
    | _, _ => none
end

inductive Chunk (R : Type) where
  | row (l : List SV) (t : TypeId)
  | tab (f : Nat → List SV) (len : Nat) (t : TypeId)
  | emp
  | rep (r : R)

structure St (R : Type) where
  hp : List (Nat × Chunk R)
  nx : Nat
  fr : List Nat
  wr : List Nat
  ask : List (Bool × Bool)
  ora : List (Option Bool)

inductive Res (R : Type) (α : Type) where
  | ok (a : α) (s : St R)
  | no (why : Nat) (ask : List (Bool × Bool))

def M (R : Type) (α : Type) := St R → Res R α

section
variable {R : Type} {α β : Type}
def M.ret (a : α) : M R α := fun s => .ok a s
def M.bind (m : M R α) (f : α → M R β) : M R β := fun s => match m s with
  | .ok a s' => f a s'
  | .no e l => .no e l
def M.fail (e : Nat) : M R α := fun s => .no e s.ask
def M.opt (e : Nat) : Option α → M R α
  | some a => M.ret a
  | none => M.fail e

def hget (n : Nat) : List (Nat × Chunk R) → Option (Chunk R)
  | [] => none
  | (m, c) :: r => match Nat.beq n m with
    | true => some c
    | false => hget n r
def hset (n : Nat) (c : Chunk R) : List (Nat × Chunk R) → List (Nat × Chunk R)
  | [] => []
  | (m, d) :: r => match Nat.beq n m with
    | true => (m, c) :: r
    | false => (m, d) :: hset n c r
def hdel (n : Nat) : List (Nat × Chunk R) → List (Nat × Chunk R)
  | [] => []
  | (m, d) :: r => match Nat.beq n m with
    | true => hdel n r
    | false => (m, d) :: hdel n r
def memN (n : Nat) : List Nat → Bool
  | [] => false
  | m :: r => match Nat.beq n m with
    | true => true
    | false => memN n r
def insN (n : Nat) (l : List Nat) : List Nat := match memN n l with
  | true => l
  | false => n :: l
def uniN (a b : List Nat) : List Nat := a.foldr insN b

def getC (n : Nat) : M R (Chunk R) := fun ⟨hp, nx, fr, wr, ak, oc⟩ => match hget n hp with
  | some c => .ok c ⟨hp, nx, insN n fr, wr, ak, oc⟩
  | none => .no 10 ak
def setC (n : Nat) (c : Chunk R) : M R Unit := fun ⟨hp, nx, fr, wr, ak, oc⟩ => match hget n hp with
  | some _ => .ok () ⟨hset n c hp, nx, insN n fr, insN n wr, ak, oc⟩
  | none => .no 11 ak
def delC (n : Nat) : M R Unit := fun ⟨hp, nx, fr, wr, ak, oc⟩ => match hget n hp with
  | some _ => .ok () ⟨hdel n hp, nx, insN n fr, insN n wr, ak, oc⟩
  | none => .no 12 ak
def newC (c : Chunk R) : M R Nat := fun ⟨hp, nx, fr, wr, ak, oc⟩ => .ok nx ⟨(nx, c) :: hp, nx + 1, fr, wr, ak, oc⟩
def askB (b : Bool) : M R Bool := fun ⟨hp, nx, fr, wr, ak, oc⟩ => match oc with
  | some o :: r => .ok o ⟨hp, nx, fr, wr, (b, o) :: ak, r⟩
  | none :: r => .ok b ⟨hp, nx, fr, wr, ak, r⟩
  | [] => .ok b ⟨hp, nx, fr, wr, ak, []⟩
/-- A test that must come out so. -/
def need (e : Nat) (b : Bool) : M R Unit := (askB b).bind fun
  | true => .ret ()
  | false => .fail e
/-- A test that is decided by the text. -/
def want (e : Nat) (b : Bool) : M R Unit := match b with
  | true => .ret ()
  | false => .fail e

def pureRun {α : Type} (P : Program) : Sem α → Option α
  | .pure a => some a
  | .program k => pureRun P (k P)
  | _ => none

def SV.cells : SV → List SV
  | .agg l => l
  | .v (.agg cs) => cs.toList.map .v
  | x => [x]
def SV.oneC : SV → Bool
  | .v x => x.oneCell
  | .agg _ => false
  | .tup _ => false
  | _ => true
def isAggV : SV → Bool
  | .agg _ => true
  | .v (.agg _) => true
  | _ => false
def szT (P : Program) (t : TypeId) : Option Nat := (P.info? t).map (·.size)
def zeroT (P : Program) (t : TypeId) : Option (List SV) := ((P.info? t).bind (·.zero)).map fun z => z.cells.toList.map .v
def aggT (P : Program) (t : TypeId) : Option Bool := match P.underlying t with
  | some (.struct _) => some true
  | some (.array _ _) => some true
  | some _ => some false
  | none => none
def cut (l : List SV) (off k : Nat) : Option (List SV) := match Nat.beq ((l.drop off).take k).length k with
  | true => some ((l.drop off).take k)
  | false => none
def partX (P : Program) (t : TypeId) (l : List SV) (off : Nat) : Option SV := match aggT P t with
  | some true => (szT P t).bind fun k => (cut l off k).map .agg
  | some false => l[off]?
  | none => none
def splice (l : List SV) (off : Nat) (cs : List SV) : List SV := l.take off ++ (cs ++ l.drop (off + cs.length))

def loadX (P : Program) (t : TypeId) : SV → M R SV
  | .ptr n off => (getC n).bind fun
    | .row l _ => .opt 20 (partX P t l off)
    | _ => .fail 21
  | .tptr n i j => (getC n).bind fun
    | .tab f _ _ => .opt 22 (partX P t (f i) j)
    | _ => .fail 23
  | _ => .fail 24
def storeX (P : Program) (t : TypeId) (v : SV) : SV → M R Unit
  | .ptr n off => (getC n).bind fun
    | .row l t' => (M.opt 30 (szT P t)).bind fun k => (want 31 (Nat.beq v.cells.length k && Nat.ble (off + k) l.length && v.cells.all SV.oneC)).bind fun _ =>
      setC n (.row (splice l off v.cells) t')
    | _ => .fail 32
  | _ => .fail 33

def fieldOf (P : Program) (s : TypeId) (f : Nat) : Option Field := match P.underlying s with
  | some (.struct fs) => fs[f]?
  | _ => none
def fieldAddrX (P : Program) (s : TypeId) (f : Nat) (x : SV) : Option SV := match fieldOf P s f with
  | some fd => match szT P fd.type with
    | some (_ + 1) => match x with
      | .ptr n off => some (.ptr n (off + fd.offset))
      | .tptr n i j => some (.tptr n i (j + fd.offset))
      | _ => none
    | _ => none
  | none => none
def fieldX (P : Program) (s : TypeId) (f : Nat) (x : SV) : Option SV := match fieldOf P s f with
  | some fd => match isAggV x with
    | true => partX P fd.type x.cells fd.offset
    | false => none
  | none => none

def fillX (place : Nat → Option (Nat × Nat)) (cells : List SV) : List (Nat × SV) → Option (List SV)
  | [] => some cells
  | (i, v) :: rest => match place i with
    | none => none
    | some (off, size) => match (Nat.beq v.cells.length size && Nat.ble (off + size) cells.length) with
      | true => fillX place (splice cells off v.cells) rest
      | false => none
def buildX (P : Program) (t : TypeId) (parts : List (Nat × SV)) : Option SV := match P.underlying t with
  | some (.struct fs) => match fs.all fun f => (szT P f.type).isSome with
    | true => (zeroT P t).bind fun z => (fillX (fun i => match fs[i]? with | some f => (szT P f.type).map fun k => (f.offset, k) | none => none) z parts).map .agg
    | false => none
  | some (.array _ elem) => (zeroT P t).bind fun z => (szT P elem).bind fun k => (fillX (fun i => some (i * k, k)) z parts).map .agg
  | _ => none
def zerosX (P : Program) (elem : TypeId) (n : Nat) : Option (List SV) := (P.info? elem).bind fun i => i.zero.bind fun z => match z.cells.size with
  | 0 => none
  | _ + 1 => some ((List.range n).map fun j => .v z.cells[j % z.cells.size]!)
def buildSliceX (P : Program) (t : TypeId) (len : Nat) (parts : List (Nat × SV)) : Option (TypeId × List SV) := match P.underlying t with
  | some (.slice elem) => (szT P elem).bind fun k => match (Nat.ble (len * k) 16777216 && !Nat.beq k 0) with
    | true => (zerosX P elem (len * k)).bind fun z => (fillX (fun i => some (i * k, k)) z parts).map fun l => (elem, l)
    | false => none
  | _ => none

def eqF (f : Field → Option Bool) : List Field → Option Bool
  | [] => some true
  | fd :: r => match fd.name != "_" with
    | true => match f fd, eqF f r with
      | some a, some b => some (a && b)
      | _, _ => none
    | false => eqF f r
def eqX (P : Program) : Nat → TypeId → List SV → List SV → Option Bool
  | 0, _, _, _ => none
  | d + 1, t, xs, ys => match P.underlying t with
    | some .bool => match xs, ys with
      | [.v (.bool a)], [.v (.bool b)] => some (a == b)
      | _, _ => none
    | some (.int _) => match xs, ys with
      | [.v (.int k a)], [.v (.int k' b)] => if k = k' then some (a == b) else none
      | _, _ => none
    | some .string => match xs, ys with
      | [.v (.string a)], [.v (.string b)] => some (a == b)
      | _, _ => none
    | some (.struct fs) => match P.stoodInHeld t with
      | true => none
      | false => eqF (fun fd => match szT P fd.type, aggT P fd.type with
        | some (k + 1), some g => match (g || Nat.beq k 0), cut xs fd.offset (k + 1), cut ys fd.offset (k + 1) with
          | true, some a, some b => eqX P d fd.type a b
          | _, _, _ => none
        | _, _ => none) fs.toList
    | _ => none
/-- Whether a value is nil, where one sees it. -/
def nilX (d : Option TypeDesc) (a b : SV) : Option Bool := match d, a, b with
  | some (.pointer _), .ptr _ _, .v (.pointer none) => some false
  | some (.pointer _), .v (.pointer none), .ptr _ _ => some false
  | some (.interface _), .ifc _ _, .v .nilIface => some false
  | some (.interface _), .v .nilIface, .ifc _ _ => some false
  | some (.func _ _ _), .clo _ _ _, .v .nilFunc => some false
  | some (.func _ _ _), .v .nilFunc, .clo _ _ _ => some false
  | some (.slice _), .sl _ _ _ _, .v (.slice none _ _) => some false
  | _, _, _ => none
def eqlX (P : Program) (t : TypeId) (a b : SV) : Option Bool := match nilX (P.underlying t) a b with
  | some r => some r
  | none => match isAggV a && isAggV b && !P.eqGuardType P.depth t && (match aggT P t with | some true => true | _ => false) with
    | true => eqX P 50 t a.cells b.cells
    | false => none
def noGuard : Value → Bool
  | .nilIface => false
  | .agg _ => false
  | _ => true
def eqNe (op : BinOp) (r : Option Bool) : Option SV := match op with
  | .eql => r.map fun r => .v (.bool r)
  | .neq => r.map fun r => .v (.bool !r)
  | _ => none
def binX (P : Program) (op : BinOp) (t : TypeId) (a b : SV) : Option SV := match a, b with
  | .v x, .v y => match noGuard x with
    | true => (pureRun P (binOp op t x y)).map .v
    | false => eqNe op (eqlX P t a b)
  | _, _ => eqNe op (eqlX P t a b)

def nilNil (d : Option TypeDesc) (a b : SV) (y : Operand) : Bool := match d, a, b, y with
  | some (.interface _), .v .nilIface, .v .nilIface, .const _ => true
  | _, _, _, _ => false
def lenX (P : Program) (t ty : TypeId) : SV → Option SV
  | .sl _ _ _ n => match P.underlying t with
    | some (.slice _) => some (.v (.int .i64 n))
    | _ => none
  | .tsl _ n => match P.underlying t with
    | some (.slice _) => some (.v (.int .i64 n))
    | _ => none
  | .slE _ => match P.underlying t with
    | some (.slice _) => some (.v (.int .i64 (0 : Nat)))
    | _ => none
  | .v x => (pureRun P (Builtin.len_ #[t] ty #[x])).map .v
  | _ => none

def idxX (P : Program) (t : TypeId) (x : SV) : SV → M R SV
  | .v (.int _ i) => match P.underlying t with
    | some (.slice elem) => match x with
      | .sl n off _ len => (need 40 (decide (0 ≤ i ∧ i < (len : Int)))).bind fun _ => (M.opt 41 (szT P elem)).bind fun k => .ret (.ptr n (off + i.toNat * k))
      | .tsl n len => (getC n).bind fun
        | .tab _ len' t' => (want 45 (Nat.beq t' elem && (P.info? elem).isSome)).bind fun _ => (need 42 (decide (0 ≤ i ∧ i < (len : Int) ∧ len = len'))).bind fun _ => .ret (.tptr n i.toNat 0)
        | _ => .fail 46
      | _ => .fail 43
    | some (.array len elem) => match x with
      | .ptr n off => (need 47 (decide (0 ≤ i ∧ i < (len : Int)))).bind fun _ => (M.opt 48 (szT P elem)).bind fun k => .ret (.ptr n (off + i.toNat * k))
      | _ => .fail 49
    | _ => .fail 50
  | _ => .fail 44

def intSV : SV → Option Int
  | .v (.int _ n) => some n
  | _ => none
def natOf : SV → Option Nat
  | .v (.int _ (.ofNat n)) => some n
  | _ => none
def sliceX (P : Program) (t : TypeId) (x : SV) (lo hi : Option SV) : M R SV := match P.underlying t with
  | some (.slice elem) => match x with
    | .sl n off idx len => (M.opt 60 (match lo with | some s => natOf s | none => some 0)).bind fun l => (M.opt 61 (match hi with | some s => natOf s | none => some len)).bind fun h =>
      (M.opt 62 (szT P elem)).bind fun k => (want 63 (Nat.ble l h && Nat.ble h len && !Nat.beq k 0)).bind fun _ => (getC n).bind fun
        | .row cs t' => (want 64 (Nat.beq t' elem && Nat.ble ((idx + len) * k) cs.length && Nat.beq off (idx * k))).bind fun _ => match Nat.beq l h with
          | true => (newC .emp).bind fun m => .ret (.slE m)
          | false => .ret (.sl n (off + l * k) (idx + l) (h - l))
        | _ => .fail 65
    | _ => .fail 66
  | _ => .fail 67

/-- The cells to be appended. -/
def srcX (k : Nat) : SV → M R (Nat × List SV)
  | .v (.slice none 0 _) => .ret (0, [])
  | .slE n => (getC n).bind fun
    | .emp => .ret (0, [])
    | _ => .fail 70
  | .sl n off _ len => (getC n).bind fun
    | .row l _ => (M.opt 71 (cut l off (len * k))).bind fun cs => .ret (len, cs)
    | _ => .fail 72
  | _ => .fail 73
def isSliceT (P : Program) (t : Option TypeId) : Bool := match t with
  | some t => match P.underlying t with
    | some (.slice _) => true
    | _ => false
  | none => false
def zeroFits (i : TypeInfo) : Bool := match i.zero with
  | some z => Nat.beq z.cells.size i.size
  | none => false
def appendX (P : Program) (t : TypeId) (tx : Option TypeId) (s x : SV) : M R SV := match P.underlying t with
  | some (.slice elem) => (M.opt 80 (P.info? elem)).bind fun i => (want 81 (!Nat.beq i.size 0 && !Nat.beq i.bytes 0 && zeroFits i && isSliceT P tx)).bind fun _ => (srcX i.size x).bind fun r => match s with
    | .v (.slice none 0 0) => match r.1 with
      | 0 => .ret (.v (.slice none 0 0))
      | m + 1 => (want 82 (r.2.all SV.oneC)).bind fun _ => (need 83 (decide ((m + 1) * i.bytes ≤ 140737488351232))).bind fun _ => (newC (.row r.2 elem)).bind fun n => .ret (.sl n 0 0 (m + 1))
    | .slE n => match r.1 with
      | 0 => .ret (.slE n)
      | _ + 1 => .fail 90
    | .sl n off idx len => (getC n).bind fun
      | .row l t' => (want 84 (Nat.beq t' elem && Nat.beq off (idx * i.size) && Nat.ble ((idx + len) * i.size) l.length)).bind fun _ => match r.1 with
        | 0 => .ret (.sl n off idx len)
        | m + 1 => (want 86 (Nat.beq l.length ((idx + len) * i.size) && r.2.all SV.oneC)).bind fun _ =>
          (need 85 (decide ((len + m + 1) * i.bytes ≤ 140737488351232))).bind fun _ => (delC n).bind fun _ =>
          (newC (.row (l.drop off ++ r.2) elem)).bind fun n' => .ret (.sl n' 0 0 (len + m + 1))
      | _ => .fail 87
    | _ => .fail 88
  | _ => .fail 89

def copyX (P : Program) (t : TypeId) (d x : SV) : M R SV := match P.underlying t with
  | some (.slice elem) => (M.opt 90 (P.info? elem)).bind fun i => (srcX i.size x).bind fun r => match d with
    | .sl n off _ len => match Nat.min r.1 len with
      | 0 => .ret (.v (.int .i64 0))
      | m + 1 => (M.opt 91 (cut r.2 0 ((m + 1) * i.size))).bind fun cs => (getC n).bind fun
        | .row l t' => (want 92 (Nat.ble (off + (m + 1) * i.size) l.length && cs.all SV.oneC)).bind fun _ =>
          (setC n (.row (splice l off cs) t')).bind fun _ => .ret (.v (.int .i64 (m + 1 : Nat)))
        | _ => .fail 93
    | _ => .fail 94
  | _ => .fail 95

def methodX (P : Program) (t : TypeId) (name : String) : Option FuncId := match P.underlying t with
  | some (.pointer _) => match P.info? t with
    | some i => match i.methods.find? (·.name == name) with
      | some m => match m.path.isEmpty, m.func with
        | true, some (f, true) => some f
        | _, _ => none
      | none => none
    | none => none
  | _ => none

/-- Operations that neither read nor write. -/
def plainX (P : Program) (ev : Operand → Option SV) : Op → Option SV
  | .move x => ev x
  | .assign x => ev x
  | .fieldAddr s x f => (ev x).bind (fieldAddrX P s f)
  | .field s x f => (ev x).bind (fieldX P s f)
  | .nilCheck x => (ev x).bind fun
    | .ptr n o => some (.ptr n o)
    | .tptr n i j => some (.tptr n i j)
    | .ifc t y => some (.ifc t y)
    | .clo (.func f) a b => some (.clo (.func f) a b)
    | .clo (.method name) (.ifc t y :: a) b => (methodX P t name).map fun _ => .clo (.method name) (.ifc t y :: a) b
    | _ => none
  | .build t parts => (parts.toList.mapM fun p => (ev p.2).map fun s => (p.1, s)).bind (buildX P t)
  | .binOp op t x y _ => (ev x).bind fun a => (ev y).bind fun b => match nilNil (P.underlying t) a b y with
    | true => eqNe op (some true)
    | false => binX P op t a b
  | .unOp op _ x => (ev x).bind fun
    | .v a => (pureRun P (Op.unary op a)).map .v
    | _ => none
  | .convert s d x => (ev x).bind fun
    | .v a => (pureRun P (convert s d a)).map .v
    | _ => none
  | .index t x i => (ev x).bind fun a => (ev i).bind fun b => match a, b with
    | .v a, .v b => (pureRun P (Instr.index t a b)).map .v
    | _, _ => none
  | .makeInterface t x => match P.underlying t with
    | some (.interface _) => none
    | some _ => (ev x).map (.ifc t)
    | none => none
  | .makeFunc fn a b => (a.toList.mapM ev).bind fun a => (b.toList.mapM ev).map fun b => .clo fn a b
  | .extract x i => (ev x).bind fun
    | .tup l => l[i]?
    | _ => none
  | _ => none

def okFn (P : Program) (g : FuncId) : Bool := match P.funcs[g]? with
  | some fn => fn.body.isSome && fn.name != "runtime.NumGoroutine"
  | none => false
def undefX : SV := .v undef
/-- What else the executor is given: calls, and operations of structures of a kind. -/
structure Hk (R : Type) where
  fn : FuncId → List SV → M R SV
  ext : (Operand → Option SV) → Oper → Option (M R SV)
def builtinX (P : Program) : Builtin → List TypeId → TypeId → List SV → M R SV
  | .len, [t], ty, [x] => .opt 123 (lenX P t ty x)
  | .append, [t, tx], _, [s, x] => appendX P t (some tx) s x
  | .copy, [t, _], _, [d, x] => copyX P t d x
  | .min, _, _, [.v (.int k x), .v (.int _ y)] => .ret (.v (.int k (if y < x then y else x)))
  | .max, _, _, [.v (.int k x), .v (.int _ y)] => .ret (.v (.int k (if x < y then y else x)))
  | _, _, _, _ => .fail 126
/-- One operation: its value. -/
def opX (P : Program) (call : Hk R) (ev : Operand → Option SV) (o : Oper) : M R SV := match call.ext ev o with
  | some m => m
  | none => match o.op with
  | .pick c a b => (M.opt 100 (ev c)).bind fun
    | .v (.bool t) => (askB t).bind fun
      | true => .opt 101 (ev a)
      | false => .opt 102 (ev b)
    | _ => .fail 103
  | .load t x => (M.opt 104 (ev x)).bind (loadX P t)
  | .store t x y => (M.opt 105 (ev x)).bind fun a => (M.opt 106 (ev y)).bind fun v => (storeX P t v a).bind fun _ => .ret undefX
  | .alloc t => (M.opt 107 (zeroT P t)).bind fun z => (M.opt 141 (szT P t)).bind fun k => (want 142 (Nat.beq z.length k)).bind fun _ => (newC (.row z t)).bind fun n => .ret (.ptr n 0)
  | .box t x => (M.opt 108 (ev x)).bind fun v => (M.opt 143 (szT P t)).bind fun k => (want 144 (Nat.beq v.cells.length k)).bind fun _ => (newC (.row v.cells t)).bind fun n => .ret (.ptr n 0)
  | .buildSlice t len parts => (M.opt 109 (parts.toList.mapM fun p => (ev p.2).map fun s => (p.1, s))).bind fun ps => (M.opt 110 (buildSliceX P t len ps)).bind fun r =>
    (newC (.row r.2 r.1)).bind fun n => .ret (.sl n 0 0 len)
  | .makeSlice t len cap => (M.opt 111 ((ev len).bind intSV)).bind fun zn => (M.opt 112 ((ev cap).bind intSV)).bind fun zc => match P.underlying t with
    | some (.slice elem) => (M.opt 113 (P.info? elem)).bind fun i => (need 114 (decide (0 ≤ zn) && decide (0 ≤ zc) && (Nat.ble zn.toNat zc.toNat && Nat.ble (zc.toNat * i.bytes) 140737488351232 && Nat.ble zc.toNat 140737488351232 && !Nat.beq i.size 0))).bind fun _ =>
      (M.opt 115 (zerosX P elem (zc.toNat * i.size))).bind fun z => (newC (.row z elem)).bind fun m => .ret (.sl m 0 0 zn.toNat)
    | _ => .fail 116
  | .indexAddr t x i => (M.opt 117 (ev x)).bind fun a => (M.opt 118 (ev i)).bind (idxX P t a)
  | .slice t x lo hi none => (M.opt 119 (ev x)).bind fun a => (M.opt 120 (match lo with | some l => (ev l).map some | none => some none)).bind fun l =>
    (M.opt 121 (match hi with | some h => (ev h).map some | none => some none)).bind fun h => sliceX P t a l h
  | .call c => (M.opt 122 (c.args.toList.mapM ev)).bind fun args => match c.callee with
    | .builtin b => builtinX P b c.argTypes.toList o.type args
    | .value f => (M.opt 127 (ev f)).bind fun
      | .v (.func (.func g) a b) => (want 133 (okFn P g && Nat.beq a.size 0 && Nat.beq b.size 0)).bind fun _ => call.fn g args
      | .clo (.func g) a b => (want 134 (okFn P g)).bind fun _ => call.fn g (a ++ (args ++ b))
      | _ => .fail 128
    | .invoke r name => (M.opt 129 (ev r)).bind fun
      | .ifc t x => (M.opt 130 (methodX P t name)).bind fun g => (want 135 (okFn P g)).bind fun _ => call.fn g (x :: args)
      | _ => .fail 131
  | op => .opt 140 (plainX P ev op)

abbrev Env := List (Nat × SV)
def elook (t : Nat) : Env → Option SV
  | [] => none
  | (k, s) :: r => match Nat.beq t k with
    | true => some s
    | false => elook t r
def evX (e : Env) : Operand → Option SV
  | .tmp t => elook t e
  | .const c => some (.v c)
  | .func f => some (.v (.func (.func f) #[] #[]))
  | .global _ => none
def putX (d : Option Tmp) (s : SV) (e : Env) : Env := match d with
  | some t => (t, s) :: e
  | none => e

/-- The names of an environment as bits; and those of it alone, each once: what goes into a loop's next round. -/
def maskE : Env → Nat
  | [] => 0
  | (k, _) :: r => Nat.lor (maskE r) (Nat.pow 2 k)
def pruneE (m : Nat) : Env → Env
  | [] => []
  | (k, s) :: r => match Nat.testBit m k with
    | true => (k, s) :: pruneE (Nat.xor m (Nat.pow 2 k)) r
    | false => pruneE m r

/-- As evX, but of those temporaries alone. -/
def evR (l : List Tmp) (e : Env) : Operand → Option SV
  | .tmp t => match memN t l with
    | true => elook t e
    | false => none
  | x => evX e x

def boolOf : SV → Option Bool
  | .v (.bool b) => some b
  | _ => none
/-- What a guard's temporary says: a Bool; or none was made. -/
def guardOf : SV → Option (Option Bool)
  | .v (.bool b) => some (some b)
  | .v (.tuple ⟨[]⟩) => some none
  | _ => none
/-- One operation of a region, if it is asked for. -/
def oneX (P : Program) (call : Hk R) (ops : Array Oper) (o : Oper) (ev : Operand → Option SV) : M R SV := match o.guard with
  | none => opX P call ev o
  | some (j, w) => match (ops[j]?).bind (·.dst) with
    | some d => (M.opt 150 ((ev (.tmp d)).bind guardOf)).bind fun
      | none => .ret undefX
      | some b => (askB b).bind fun t => match t == w with
        | true => opX P call ev o
        | false => .ret undefX
    | none => .fail 153

def seqX (P : Program) (call : Hk R) (ops : Array Oper) (sz : Nat) : List Oper → Env → M R Env
  | [], e => .ret e
  | o :: r, e => (want 151 (match o.dst with | some d => Nat.blt d sz | none => true)).bind fun _ => (oneX P call ops o (evX e)).bind fun s => seqX P call ops sz r (putX o.dst s e)

/-- What an operation of a region whose order is open has touched. -/
structure Log where
  fr : List Nat
  wr : List Nat
  lo : Nat
  hi : Nat
  looks : List Tmp
  dst : Option Tmp

def touches (l : Log) (n : Nat) : Bool := memN n l.wr || (Nat.ble l.lo n && Nat.blt n l.hi)
/-- Whether two operations, the first ahead in the text, must not change places. -/
def clash (a b : Log) : Bool := b.fr.any (touches a) || a.fr.any (touches b) ||
  (match a.dst with | some d => memN d b.looks || (match b.dst with | some d' => Nat.beq d d' | none => false) | none => false) || (match b.dst with | some d => memN d a.looks | none => false)

def St.bare (st : St R) : St R := match st with
  | ⟨hp, nx, _, _, ak, oc⟩ => ⟨hp, nx, [], [], ak, oc⟩
def St.join (t s : St R) : St R := match t, s with
  | ⟨hp, nx, fr, wr, ak, oc⟩, ⟨_, _, fr', wr', _, _⟩ => ⟨hp, nx, uniN fr fr', uniN wr wr', ak, oc⟩
def logOf (s t : St R) (ops : Array Oper) (o : Oper) : Log := ⟨t.fr, t.wr, s.nx, t.nx, o.looksAt ops, o.dst⟩
def drawX (P : Program) (call : Hk R) (ops : Array Oper) (sz : Nat) : List Oper → List Log → Env → M R (Env × List Log)
  | [], ls, e => .ret (e, ls)
  | o :: r, ls, e => (want 152 ((match o.dst with | some d => Nat.blt d sz | none => true) && o.after.all fun e => !Region.binds .any e || Nat.blt e.on ls.length)).bind fun _ => fun st =>
    match oneX P call ops o (evR (o.looksAt ops) e) st.bare with
    | .ok s t => drawX P call ops sz r (logOf st t ops o :: ls) (putX o.dst s e) (t.join st)
    | .no w l => .no w l

/-- Those that stand ahead of an operation by the region's edges, as bits. -/
def maskOf (acc : List Nat) (o : Oper) : Nat := o.after.toList.foldr (fun e s => match Region.binds .any e && Nat.blt e.on acc.length with
  | true => (s ||| 2 ^ e.on) ||| acc.getD (acc.length - 1 - e.on) 0
  | false => s) 0
def masks : List Oper → List Nat → List Nat
  | [], acc => acc
  | o :: r, acc => masks r (maskOf acc o :: acc)
/-- Each pair that may not change places stands in order by the region's edges. -/
def ordered : List Nat → List Log → Bool
  | _, [] => true
  | [], _ :: _ => false
  | m :: ms, l :: r => (r.zipIdx.all fun p => !clash p.1 l || m.testBit (r.length - 1 - p.2)) && ordered ms r

inductive Ex where
  | nor
  | ret
  | out (id : Nat)

def resX (P : Program) (e : Env) : List ResultVar → M R (List SV)
  | [] => .ret []
  | .tmp t :: r => (M.opt 162 (elook t e)).bind fun s => (resX P e r).bind fun l => .ret (s :: l)
  | .cell a t :: r => (M.opt 165 (elook a e)).bind fun x => (loadX P t x).bind fun s => (resX P e r).bind fun l => .ret (s :: l)
def oneOf : List SV → SV
  | [x] => x
  | l => .tup l

/-- Names below a bound, or among those of l. -/
def ptrsOf : SV → List Nat
  | .ptr n _ => [n]
  | .sl n _ _ _ => [n]
  | .slE n => [n]
  | .tptr n _ _ => [n]
  | .tsl n _ => [n]
  | .mp n => [n]
  | .ifc _ x => ptrsOf x
  | _ => []
def ptrsAll : SV → List Nat
  | .agg l => l.foldr (fun s a => ptrsOf s ++ a) []
  | .tup l => l.foldr (fun s a => ptrsAllOf s ++ a) []
  | .clo _ a b => a.foldr (fun s a => ptrsOf s ++ a) (b.foldr (fun s a => ptrsOf s ++ a) [])
  | x => ptrsOf x
where
  ptrsAllOf : SV → List Nat
  | .agg l => l.foldr (fun s a => ptrsOf s ++ a) []
  | x => ptrsOf x
def chunkPtrs : Chunk R → List Nat
  | .row l _ => l.foldr (fun s a => ptrsAll s ++ a) []
  | _ => []
/-- Those from lo on that one comes to. -/
def reachX (lo : Nat) (hp : List (Nat × Chunk R)) : Nat → List Nat → List Nat → List Nat
  | 0, _, seen => seen
  | _ + 1, [], seen => seen
  | k + 1, n :: todo, seen => match Nat.blt n lo || memN n seen with
    | true => reachX lo hp k todo seen
    | false => match hget n hp with
      | some c => reachX lo hp k (chunkPtrs c ++ todo) (n :: seen)
      | none => reachX lo hp k todo seen
def keepX (lo : Nat) (keep : List Nat) : List (Nat × Chunk R) → List (Nat × Chunk R)
  | [] => []
  | (n, c) :: r => match Nat.blt n lo || memN n keep with
    | true => (n, c) :: keepX lo keep r
    | false => keepX lo keep r
def cutN (lo : Nat) (base l : List Nat) : List Nat := l.filter fun n => Nat.blt n lo || memN n base
/-- Behind a call: what it made, and nobody comes to, is forgotten. -/
def sweepSt (st : St R) (s : SV) : St R → St R := fun ⟨hp, nx, fr, wr, ak, oc⟩ => match st with
  | ⟨_, lo, fr0, wr0, _, _⟩ => match Nat.beq lo nx with
    | true => ⟨hp, nx, fr, wr, ak, oc⟩
    | false => ⟨keepX lo (reachX lo hp 1000 (wr.foldr (fun n a => match Nat.blt n lo with | true => (match hget n hp with | some c => chunkPtrs c ++ a | none => a) | false => a) (ptrsAll s)) []) hp, nx, cutN lo fr0 fr, cutN lo wr0 wr, ak, oc⟩

/-! Values reckoned out: for the kernel's sake; each is the value itself. -/
def fNat {β : Type} (n : Nat) (k : Nat → β) : β := match n with
  | 0 => k 0
  | m + 1 => k (m + 1)
def fInt {β : Type} (z : Int) (k : Int → β) : β := match z with
  | .ofNat n => fNat n fun m => k (.ofNat m)
  | .negSucc n => fNat n fun m => k (.negSucc m)
def fBool {β : Type} (b : Bool) (k : Bool → β) : β := match b with
  | true => k true
  | false => k false
def fVal {β : Type} (x : Value) (k : Value → β) : β := match x with
  | .int kd z => fInt z fun z => k (.int kd z)
  | .bool b => fBool b fun b => k (.bool b)
  | x => k x
def fC0 {β : Type} (s : SV) (k : SV → β) : β := match s with
  | .v x => fVal x fun x => k (.v x)
  | .ptr n o => fNat n fun n => fNat o fun o => k (.ptr n o)
  | .sl n o i l => fNat n fun n => fNat o fun o => fNat i fun i => fNat l fun l => k (.sl n o i l)
  | .mp n => fNat n fun n => k (.mp n)
  | .slE n => fNat n fun n => k (.slE n)
  | x => k x
def fL0 {β : Type} : List SV → (List SV → β) → β
  | [], k => k []
  | x :: l, k => fC0 x fun x => fL0 l fun l => k (x :: l)
def fC1 {β : Type} (s : SV) (k : SV → β) : β := match s with
  | .ifc t x => fC0 x fun x => k (.ifc t x)
  | .clo fn a b => fL0 a fun a => fL0 b fun b => k (.clo fn a b)
  | x => fC0 x k
def fL1 {β : Type} : List SV → (List SV → β) → β
  | [], k => k []
  | x :: l, k => fC1 x fun x => fL1 l fun l => k (x :: l)
def fS {β : Type} (s : SV) (k : SV → β) : β := match s with
  | .agg l => fL1 l fun l => k (.agg l)
  | x => fC1 x k
def fLS {β : Type} : List SV → (List SV → β) → β
  | [], k => k []
  | x :: l, k => fS x fun x => fLS l fun l => k (x :: l)
def fTop {β : Type} (s : SV) (k : SV → β) : β := match s with
  | .tup l => fLS l fun l => k (.tup l)
  | x => fS x k
def fNats {β : Type} : List Nat → (List Nat → β) → β
  | [], k => k []
  | x :: l, k => fNat x fun x => fNats l fun l => k (x :: l)
def fChunk {β : Type} (fR : R → (R → β) → β) (c : Chunk R) (k : Chunk R → β) : β := match c with
  | .row l t => fL1 l fun l => k (.row l t)
  | .rep r => fR r fun r => k (.rep r)
  | c => k c
def fHp {β : Type} (fR : R → (R → β) → β) : List (Nat × Chunk R) → (List (Nat × Chunk R) → β) → β
  | [], k => k []
  | (n, c) :: r, k => fNat n fun n => fChunk fR c fun c => fHp fR r fun r => k ((n, c) :: r)
def fSt {β : Type} (fR : R → (R → β) → β) (st : St R) (k : St R → β) : β := match st with
  | ⟨hp, nx, fr, wr, ak, oc⟩ => fHp fR hp fun hp => fNat nx fun nx => fNats fr fun fr => fNats wr fun wr => k ⟨hp, nx, fr, wr, ak, oc⟩
section
variable {β : Type}
theorem fNat_eq (n : Nat) (k : Nat → β) : fNat n k = k n := by cases n <;> rfl
theorem fInt_eq (z : Int) (k : Int → β) : fInt z k = k z := by cases z <;> simp [fInt, fNat_eq]
theorem fBool_eq (b : Bool) (k : Bool → β) : fBool b k = k b := by cases b <;> rfl
theorem fVal_eq (x : Value) (k : Value → β) : fVal x k = k x := by cases x <;> simp [fVal, fInt_eq, fBool_eq]
theorem fC0_eq (s : SV) (k : SV → β) : fC0 s k = k s := by cases s <;> simp [fC0, fVal_eq, fNat_eq]
theorem fL0_eq (l : List SV) (k : List SV → β) : fL0 l k = k l := by
  induction l generalizing k with
  | nil => rfl
  | cons x l ih => simp [fL0, fC0_eq, ih]
theorem fC1_eq (s : SV) (k : SV → β) : fC1 s k = k s := by cases s <;> simp [fC1, fC0_eq, fL0_eq]
theorem fL1_eq (l : List SV) (k : List SV → β) : fL1 l k = k l := by
  induction l generalizing k with
  | nil => rfl
  | cons x l ih => simp [fL1, fC1_eq, ih]
theorem fS_eq (s : SV) (k : SV → β) : fS s k = k s := by cases s <;> simp [fS, fC1_eq, fL1_eq]
theorem fLS_eq (l : List SV) (k : List SV → β) : fLS l k = k l := by
  induction l generalizing k with
  | nil => rfl
  | cons x l ih => simp [fLS, fS_eq, ih]
theorem fTop_eq (s : SV) (k : SV → β) : fTop s k = k s := by cases s <;> simp [fTop, fS_eq, fLS_eq]
theorem fNats_eq (l : List Nat) (k : List Nat → β) : fNats l k = k l := by
  induction l generalizing k with
  | nil => rfl
  | cons x l ih => simp [fNats, fNat_eq, ih]
theorem fSt_eq {fR : R → (R → β) → β} (h : ∀ r k, fR r k = k r) (st : St R) (k : St R → β) : fSt fR st k = k st := by
  have hc : ∀ (c : Chunk R) (k : Chunk R → β), fChunk fR c k = k c := fun c k => by cases c <;> simp [fChunk, fL1_eq, h]
  have hh : ∀ (l : List (Nat × Chunk R)) (k : List (Nat × Chunk R) → β), fHp fR l k = k l := fun l => by
    induction l with
    | nil => exact fun _ => rfl
    | cons p l ih => exact fun k => by simp [fHp, fNat_eq, hc, ih]
  obtain ⟨hp, nx, fr, wr, ak, oc⟩ := st
  simp [fSt, hh, fNat_eq, fNats_eq]
end
/-- A state and a value reckoned out, as far as it goes. -/
abbrev Tidy (R : Type) := St R → SV → (St R → SV → Res R SV) → Res R SV
/-- All numbers too. -/
def tidyF (fR : R → (R → Res R SV) → Res R SV) : Tidy R := fun st s k => fSt fR st fun st => fTop s fun s => k st s
mutual
/-- Names alone. -/
def gS {β : Type} : SV → (SV → β) → β
  | .v x, k => k (.v x)
  | .ptr n o, k => fNat n fun n => k (.ptr n o)
  | .sl n o i l, k => fNat n fun n => k (.sl n o i l)
  | .slE n, k => fNat n fun n => k (.slE n)
  | .tptr n i j, k => fNat n fun n => k (.tptr n i j)
  | .tsl n l, k => fNat n fun n => k (.tsl n l)
  | .mp n, k => fNat n fun n => k (.mp n)
  | .ifc t x, k => gS x fun x => k (.ifc t x)
  | .agg l, k => gL l fun l => k (.agg l)
  | .tup l, k => gL l fun l => k (.tup l)
  | .clo f a b, k => gL a fun a => gL b fun b => k (.clo f a b)
def gL {β : Type} : List SV → (List SV → β) → β
  | [], k => k []
  | x :: l, k => gS x fun x => gL l fun l => k (x :: l)
end
def gHp {β : Type} : List (Nat × Chunk R) → (List (Nat × Chunk R) → β) → β
  | [], k => k []
  | (n, c) :: r, k => fNat n fun n => match c with
    | .row l t => gL l fun l => gHp r fun r => k ((n, .row l t) :: r)
    | .rep x => gHp r fun r => k ((n, .rep x) :: r)
    | .emp => gHp r fun r => k ((n, .emp) :: r)
    | .tab f len t => gHp r fun r => k ((n, .tab f len t) :: r)
/-- Names and shapes alone. -/
def tidyG : Tidy R := fun st s k => match st with
  | ⟨hp, nx, fr, wr, ak, oc⟩ => gHp hp fun hp => fNat nx fun nx => fNats fr fun fr => fNats wr fun wr => gS s fun s => k ⟨hp, nx, fr, wr, ak, oc⟩ s
mutual
theorem gS_eq {β : Type} : ∀ (s : SV) (k : SV → β), gS s k = k s
  | .v _, k => by simp only [gS]
  | .ptr _ _, k => by simp only [gS, fNat_eq]
  | .sl _ _ _ _, k => by simp only [gS, fNat_eq]
  | .slE _, k => by simp only [gS, fNat_eq]
  | .tptr _ _ _, k => by simp only [gS, fNat_eq]
  | .tsl _ _, k => by simp only [gS, fNat_eq]
  | .mp _, k => by simp only [gS, fNat_eq]
  | .ifc _ x, k => by simp only [gS, gS_eq x]
  | .agg l, k => by simp only [gS, gL_eq l]
  | .tup l, k => by simp only [gS, gL_eq l]
  | .clo _ a b, k => by simp only [gS, gL_eq a, gL_eq b]
theorem gL_eq {β : Type} : ∀ (l : List SV) (k : List SV → β), gL l k = k l
  | [], k => by simp only [gL]
  | x :: l, k => by simp only [gL, gS_eq x, gL_eq l]
end
theorem gHp_eq {β : Type} : ∀ (hp : List (Nat × Chunk R)) (k : List (Nat × Chunk R) → β), gHp hp k = k hp
  | [], k => by simp only [gHp]
  | (n, c) :: r, k => by cases c <;> simp only [gHp, fNat_eq, gL_eq, gHp_eq r]
theorem tidyG_eq (st : St R) (s : SV) (k : St R → SV → Res R SV) : tidyG st s k = k st s := by
  obtain ⟨hp, nx, fr, wr, ak, oc⟩ := st
  simp only [tidyG, gHp_eq, fNat_eq, fNats_eq, gS_eq]
theorem tidyF_eq {fR : R → (R → Res R SV) → Res R SV} (h : ∀ r k, fR r k = k r) (st : St R) (s : SV) (k : St R → SV → Res R SV) : tidyF fR st s k = k st s := by
  simp only [tidyF, fSt_eq h, fTop_eq]
/-- The sweeping; what stays is reckoned out. -/
def sweepX (tidy : Option (Tidy R)) (st : St R) (s : SV) : M R SV := fun st1 => match tidy with
  | some f => f (sweepSt st s st1) s fun st2 s2 => .ok s2 st2
  | none => .ok s (sweepSt st s st1)

def stNow : M R (St R) := fun s => .ok s s

/-- Calls, and operations, that are known by themselves. -/
structure Lib (R : Type) where
  prim : FuncId → List SV → Option (M R SV)
  ext : (Operand → Option SV) → Oper → Option (M R SV)
  tidy : Option (Tidy R) := none

def callF (P : Program) (lib : Lib R) (run : Nat → Code → Env → M R (Ex × Env)) (f : FuncId) (args : List SV) : M R SV := match lib.prim f args with
  | some m => m
  | none => match P.funcs[f]? with
    | some fn => match fn.body with
      | some c => stNow.bind fun s0 => (want 160 (Nat.ble args.length fn.ntmps)).bind fun _ => (run fn.ntmps c (args.zipIdx.map fun p => (p.2, p.1))).bind fun r => match r.1 with
        | .out _ => .fail 161
        | _ => (resX P r.2 fn.results.toList).bind fun l => sweepX lib.tidy s0 (oneOf l)
      | none => .fail 163
    | none => .fail 164

def codeF (P : Program) (call : Hk R) (run : Nat → Code → Env → M R (Ex × Env)) (sz : Nat) : Code → Env → M R (Ex × Env)
  | .skip, e => .ret (.nor, e)
  | .region _ ops false, e => (seqX P call ops sz ops.toList e).bind fun e => .ret (.nor, e)
  | .region _ ops true, e => (drawX P call ops sz ops.toList [] e).bind fun r => (want 170 (ordered (masks ops.toList []) r.2)).bind fun _ => .ret (.nor, r.1)
  | .seq a b, e => (run sz a e).bind fun r => match r.1 with
    | .nor => run sz b r.2
    | x => .ret (x, r.2)
  | .cond c a b, e => (M.opt 171 (evX e c)).bind fun
    | .v (.bool t) => (askB t).bind fun
      | true => run sz a e
      | false => run sz b e
    | _ => .fail 172
  | .block id c, e => (run sz c e).bind fun r => match r.1 with
    | .out id' => match Nat.beq id' id with
      | true => .ret (.nor, r.2)
      | false => .ret (.out id', r.2)
    | x => .ret (x, r.2)
  | .loop c, e => (run sz c e).bind fun r => match r.1 with
    | .nor => run sz (.loop c) (pruneE (maskE e) r.2)
    | x => .ret (x, r.2)
  | .exit id, e => .ret (.out id, e)
  | .ret, e => .ret (.ret, e)
  | _, _ => .fail 173

def runX (P : Program) (lib : Lib R) : Nat → Nat → Code → Env → M R (Ex × Env)
  | 0, _, _, _ => .fail 180
  | n + 1, sz, c, e => codeF P ⟨callF P lib (runX P lib n), lib.ext⟩ (runX P lib n) sz c e
def callX (P : Program) (lib : Lib R) (n : Nat) (f : FuncId) (args : List SV) : M R SV := callF P lib (runX P lib n) f args
end
end Go.Proofs.Ytkndpdmopgmlcaa
end
section
/- The executor's memory and the machine's: what it means that one stands for the other, and that a piece of code turns the one as it turns the other. No condition. -/
namespace Go.Proofs.Ytkndpdmopgmlcaa

def Names.le (ρ ρ' : Names) : Prop := ∀ n e, ρ n = some e → ρ' n = some e
theorem Names.le.refl (ρ : Names) : ρ.le ρ := fun _ _ h => h
theorem Names.le.trans {ρ ρ' ρ'' : Names} (h : ρ.le ρ') (k : ρ'.le ρ'') : ρ.le ρ'' := fun n e x => k n e (h n e x)

mutual
theorem den_mono {ρ ρ' : Names} (h : ρ.le ρ') : ∀ (s : SV) (x : Value), den ρ s = some x → den ρ' s = some x
  | .v _, _, hx => hx
  | .ptr n off, x, hx => by
    simp only [den, Option.map_eq_some_iff] at hx ⊢
    obtain ⟨e, he, hx⟩ := hx
    exact ⟨e, h n e he, hx⟩
  | .sl n off idx len, x, hx => by
    simp only [den, Option.map_eq_some_iff] at hx ⊢
    obtain ⟨e, he, hx⟩ := hx
    exact ⟨e, h n e he, hx⟩
  | .slE n, x, hx => by
    simp only [den, Option.map_eq_some_iff] at hx ⊢
    obtain ⟨e, he, hx⟩ := hx
    exact ⟨e, h n e he, hx⟩
  | .tptr n i j, x, hx => by
    simp only [den] at hx ⊢
    cases hn : ρ n with
    | none => rw [hn] at hx; cases hx
    | some e =>
      rw [hn] at hx
      rw [h n e hn]
      exact hx
  | .tsl n len, x, hx => by
    simp only [den, Option.map_eq_some_iff] at hx ⊢
    obtain ⟨e, he, hx⟩ := hx
    exact ⟨e, h n e he, hx⟩
  | .mp n, x, hx => by
    simp only [den, Option.map_eq_some_iff] at hx ⊢
    obtain ⟨e, he, hx⟩ := hx
    exact ⟨e, h n e he, hx⟩
  | .ifc t y, x, hx => by
    simp only [den, Option.map_eq_some_iff] at hx ⊢
    obtain ⟨e, he, hx⟩ := hx
    exact ⟨e, den_mono h y e he, hx⟩
  | .agg l, x, hx => by
    simp only [den, Option.map_eq_some_iff] at hx ⊢
    obtain ⟨e, he, hx⟩ := hx
    exact ⟨e, denL_mono h l e he, hx⟩
  | .tup l, x, hx => by
    simp only [den, Option.map_eq_some_iff] at hx ⊢
    obtain ⟨e, he, hx⟩ := hx
    exact ⟨e, denL_mono h l e he, hx⟩
  | .clo fn f c, x, hx => by
    simp only [den] at hx ⊢
    cases h1 : denL ρ f with
    | none => rw [h1] at hx; cases hx
    | some a =>
      cases h2 : denL ρ c with
      | none => rw [h1, h2] at hx; cases hx
      | some b =>
        rw [h1, h2] at hx
        rw [denL_mono h f a h1, denL_mono h c b h2]
        exact hx
theorem denL_mono {ρ ρ' : Names} (h : ρ.le ρ') : ∀ (l : List SV) (x : List Value), denL ρ l = some x → denL ρ' l = some x
  | [], _, hx => hx
  | s :: l, x, hx => by
    simp only [denL] at hx ⊢
    cases h1 : den ρ s with
    | none => rw [h1] at hx; cases hx
    | some a =>
      cases h2 : denL ρ l with
      | none => rw [h1, h2] at hx; cases hx
      | some b =>
        rw [h1, h2] at hx
        rw [den_mono h s a h1, denL_mono h l b h2]
        exact hx
end

section
variable {ρ : Names}
theorem denL_cons {s : SV} {l : List SV} {vs : List Value} : denL ρ (s :: l) = some vs ↔ ∃ a b, den ρ s = some a ∧ denL ρ l = some b ∧ vs = a :: b := by
  simp only [denL]
  cases h1 : den ρ s <;> cases h2 : denL ρ l <;> simp [eq_comm]
theorem denL_length : ∀ {l : List SV} {vs : List Value}, denL ρ l = some vs → vs.length = l.length
  | [], vs, h => by simp only [denL, Option.some.injEq] at h; subst h; rfl
  | s :: l, vs, h => by
    obtain ⟨a, b, _, hb, rfl⟩ := denL_cons.1 h
    simp [denL_length hb]
theorem denL_append : ∀ {l m : List SV} {vs : List Value}, denL ρ (l ++ m) = some vs ↔ ∃ a b, denL ρ l = some a ∧ denL ρ m = some b ∧ vs = a ++ b
  | [], m, vs => by simp [denL]
  | s :: l, m, vs => by
    rw [List.cons_append, denL_cons]
    constructor
    · rintro ⟨a, b, h1, h2, rfl⟩
      obtain ⟨c, d, h3, h4, rfl⟩ := denL_append.1 h2
      exact ⟨a :: c, d, denL_cons.2 ⟨a, c, h1, h3, rfl⟩, h4, rfl⟩
    · rintro ⟨a, b, h1, h2, rfl⟩
      obtain ⟨c, d, h3, h4, rfl⟩ := denL_cons.1 h1
      exact ⟨c, d ++ b, h3, denL_append.2 ⟨d, b, h4, h2, rfl⟩, rfl⟩
theorem denL_take {l : List SV} {vs : List Value} (h : denL ρ l = some vs) (k : Nat) : denL ρ (l.take k) = some (vs.take k) := by
  rw [← List.take_append_drop k l, denL_append] at h
  obtain ⟨a, b, h1, h2, rfl⟩ := h
  rw [h1]
  congr 1
  have := denL_length h1
  rw [List.take_append]
  simp only [List.length_take] at this
  have hl := denL_length h2
  simp only [List.length_drop] at hl
  rw [List.take_of_length_le (by omega)]
  have : b.take (k - a.length) = [] := by
    rcases Nat.lt_or_ge k l.length with hk | hk
    · have : k - a.length = 0 := by omega
      rw [this, List.take_zero]
    · have : b = [] := List.eq_nil_of_length_eq_zero (by omega)
      rw [this, List.take_nil]
  rw [this, List.append_nil]
theorem denL_drop {l : List SV} {vs : List Value} (h : denL ρ l = some vs) (k : Nat) : denL ρ (l.drop k) = some (vs.drop k) := by
  have h' := h
  rw [← List.take_append_drop k l, denL_append] at h
  obtain ⟨a, b, h1, h2, rfl⟩ := h
  rw [h2]
  congr 1
  have h3 := denL_take h' k
  rw [h1] at h3
  injection h3 with h3
  have := List.take_append_drop k (a ++ b)
  rw [← h3] at this
  exact (List.append_cancel_left this).symm
theorem denL_get {l : List SV} {vs : List Value} (h : denL ρ l = some vs) {i : Nat} {s : SV} (hs : l[i]? = some s) : ∃ x, den ρ s = some x ∧ vs[i]? = some x := by
  induction l generalizing vs i with
  | nil => simp at hs
  | cons y l ih =>
    obtain ⟨a, b, h1, h2, rfl⟩ := denL_cons.1 h
    cases i with
    | zero =>
      simp only [List.getElem?_cons_zero, Option.some.injEq] at hs
      subst hs
      exact ⟨a, h1, rfl⟩
    | succ i => exact ih h2 (by simpa using hs)
theorem denL_vs (l : List Value) : denL ρ (l.map .v) = some l := by
  induction l with
  | nil => rfl
  | cons x l ih => simp only [List.map_cons]; exact denL_cons.2 ⟨x, l, rfl, ih, rfl⟩
theorem den_agg {l : List SV} {x : Value} : den ρ (.agg l) = some x ↔ ∃ vs, denL ρ l = some vs ∧ x = .agg vs.toArray := by
  simp only [den, Option.map_eq_some_iff]
  constructor
  · rintro ⟨a, h, rfl⟩; exact ⟨a, h, rfl⟩
  · rintro ⟨a, h, rfl⟩; exact ⟨a, h, rfl⟩
theorem den_cells {s : SV} {x : Value} (h : den ρ s = some x) : denL ρ s.cells = some x.cells.toList := by
  cases s with
  | agg l =>
    obtain ⟨vs, hv, rfl⟩ := den_agg.1 h
    simpa [SV.cells, Value.cells] using hv
  | v y =>
    simp only [den, Option.some.injEq] at h
    subst h
    cases y <;> simp only [SV.cells, Value.cells] <;> first | exact denL_vs _ | rfl
  | ptr n off =>
    have h' := h
    simp only [den, Option.map_eq_some_iff] at h'
    obtain ⟨e, _, rfl⟩ := h'
    simp [SV.cells, denL, h, Value.cells]
  | sl n off idx len =>
    have h' := h
    simp only [den, Option.map_eq_some_iff] at h'
    obtain ⟨e, _, rfl⟩ := h'
    simp [SV.cells, denL, h, Value.cells]
  | mp n =>
    have h' := h
    simp only [den, Option.map_eq_some_iff] at h'
    obtain ⟨e, _, rfl⟩ := h'
    simp [SV.cells, denL, h, Value.cells]
  | tptr n i j =>
    have h' := h
    simp only [den] at h'
    split at h' <;> try cases h'
    split at h' <;> cases h'
    simp [SV.cells, denL, h, Value.cells]
  | ifc t y =>
    have h' := h
    simp only [den, Option.map_eq_some_iff] at h'
    obtain ⟨e, _, rfl⟩ := h'
    simp [SV.cells, denL, h, Value.cells]
  | tup l =>
    have h' := h
    simp only [den, Option.map_eq_some_iff] at h'
    obtain ⟨e, _, rfl⟩ := h'
    simp [SV.cells, denL, h, Value.cells]
  | clo fn f c =>
    have h' := h
    simp only [den] at h'
    split at h' <;> try cases h'
    simp [SV.cells, denL, h, Value.cells]
  | slE n =>
    have h' := h
    simp only [den, Option.map_eq_some_iff] at h'
    obtain ⟨e, _, rfl⟩ := h'
    simp [SV.cells, denL, h, Value.cells]
  | tsl n len =>
    have h' := h
    simp only [den, Option.map_eq_some_iff] at h'
    obtain ⟨e, _, rfl⟩ := h'
    simp [SV.cells, denL, h, Value.cells]
end

/-- w' is w, but for the blocks of T and for new ones. -/
structure ModP (T : Nat → Prop) (w w' : World) : Prop where
  os : w'.os = w.os
  tape : w'.tape = w.tape
  output : w'.output = w.output
  size : w.heap.size ≤ w'.heap.size
  block : ∀ k, k < w.heap.size → ¬ T k → w'.heap[k]? = w.heap[k]?
section
variable {S T : Nat → Prop} {w w' w'' : World}
theorem ModP.refl (T : Nat → Prop) (w : World) : ModP T w w := ⟨rfl, rfl, rfl, Nat.le_refl _, fun _ _ _ => rfl⟩
theorem ModP.trans (h : ModP S w w') (k : ModP T w' w'') (hT : ∀ b, b < w.heap.size → T b → S b) : ModP S w w'' :=
  ⟨k.os.trans h.os, k.tape.trans h.tape, k.output.trans h.output, Nat.le_trans h.size k.size, fun x hx hn => (k.block x (Nat.lt_of_lt_of_le hx h.size) (fun ht => hn (hT x hx ht))).trans (h.block x hx hn)⟩
theorem ModP.mono (h : ModP S w w') (hT : ∀ b, b < w.heap.size → S b → T b) : ModP T w w' := ⟨h.os, h.tape, h.output, h.size, fun x hx hn => h.block x hx (fun hs => hn (hT x hx hs))⟩
theorem ModP.of_mod {L : List Nat} (h : Mod L w w') : ModP (fun b => b ∈ L) w w' := ⟨h.os, h.tape, h.output, h.size, h.block⟩
theorem ModP.mod {L : List Nat} (h : ModP T w w') (hT : ∀ b, b < w.heap.size → T b → b ∈ L) : Mod L w w' := ⟨h.os, h.tape, h.output, h.size, fun x hx hn => h.block x hx (fun hs => hn (hT x hx hs))⟩
theorem ModP.drew (w : World) : ModP T w { w with drawn := w.drawn + 1 } := ⟨rfl, rfl, rfl, Nat.le_refl _, fun _ _ _ => rfl⟩
end

/-- What a known structure is, in the machine's memory: where it lies and all its blocks. -/
structure RepAt (R : Type) where
  At : Nat → R → Spot → List Nat → World → Prop
  stable : ∀ {B r e own T w w'}, At B r e own w → ModP T w w' → (∀ x ∈ own, ¬ T x) → (∀ x, T x → B ≤ x) → At B r e own w'

section
variable {R : Type} (A : RepAt R) (P : Program)
def CAt (ρ : Names) (B : Nat) (e : Spot) (own : List Nat) : Chunk R → World → Prop
  | .row l t, w => own = [e.b] ∧ ∃ cs vs, w.heap[e.b]? = some (.cells cs t (0, 0)) ∧ denL ρ l = some vs ∧ (∀ i, i < vs.length → cs[e.off + i]? = vs[i]?) ∧ vs.length ≤ e.cap * P.cellsOf t ∧ e.off + e.cap * P.cellsOf t ≤ cs.size
  | .tab f len t, w => own = [] ∧ e.len = len ∧ e.sz = P.cellsOf t ∧ (0 < len → e.ad = some ⟨e.b, e.off, none⟩ ∧ e.b < B ∧ e.b < w.heap.size) ∧
      ∀ i, i < len → ∃ vs, denL ρ (f i) = some vs ∧ vs.length = e.sz ∧ ∀ j, j < e.sz → w.cell? ⟨e.b, e.off + i * e.sz + j, none⟩ = vs[j]?
  | .emp, _ => own = []
  | .rep r, w => A.At B r e own w

/-- The names F stand for what the memory holds. -/
structure LI (B : Nat) (ρ : Names) (own : Nat → List Nat) (hp : List (Nat × Chunk R)) (F : Nat → Prop) (w : World) : Prop where
  at_ : ∀ n c, F n → hget n hp = some c → ∃ e, ρ n = some e ∧ CAt A P ρ B e (own n) c w
  dis : ∀ n m c d, F n → F m → n ≠ m → hget n hp = some c → hget m hp = some d → ∀ b ∈ own n, b ∉ own m
  low : ∀ n c, F n → hget n hp = some c → ∀ b ∈ own n, B ≤ b ∧ b < w.heap.size

variable {A P}
theorem CAt.stable {ρ ρ' : Names} {B : Nat} {e : Spot} {own : List Nat} {c : Chunk R} {T : Nat → Prop} {w w' : World} (h : CAt A P ρ B e own c w) (hle : ρ.le ρ') (hm : ModP T w w') (hT : ∀ x ∈ own, ¬ T x) (hB : ∀ x, T x → B ≤ x)
    : CAt A P ρ' B e own c w' := by
  cases c with
  | row l t =>
    obtain ⟨h1, cs, vs, h2, h3, h4, h5⟩ := h
    refine ⟨h1, cs, vs, ?_, denL_mono hle _ _ h3, h4, h5⟩
    rw [hm.block e.b (heap_lt h2) (hT _ (by rw [h1]; simp))]
    exact h2
  | tab f len t =>
    obtain ⟨h1, h2, h3, h4, h5⟩ := h
    refine ⟨h1, h2, h3, fun hl => ?_, fun i hi => ?_⟩
    · obtain ⟨h6, h7, h8⟩ := h4 hl
      exact ⟨h6, h7, Nat.lt_of_lt_of_le h8 hm.size⟩
    · obtain ⟨h6, h7, h8⟩ := h4 (by omega)
      obtain ⟨vs, h9, h10, h11⟩ := h5 i hi
      refine ⟨vs, denL_mono hle _ _ h9, h10, fun j hj => ?_⟩
      rw [← h11 j hj]
      exact World.cell?_of_block (w := w) (hm.block e.b h8 (fun ht => by have := hB _ ht; omega))
  | emp => exact h
  | rep r => exact A.stable h hm hT hB

theorem LI.sub {B : Nat} {ρ : Names} {own : Nat → List Nat} {hp : List (Nat × Chunk R)} {F F' : Nat → Prop} {w : World} (h : LI A P B ρ own hp F w) (hF : ∀ n, F' n → F n) : LI A P B ρ own hp F' w :=
  ⟨fun n c hn hc => h.at_ n c (hF n hn) hc, fun n m c d hn hm => h.dis n m c d (hF n hn) (hF m hm), fun n c hn => h.low n c (hF n hn)⟩

/-- Names X may have changed. -/
theorem LI.step {B : Nat} {ρ ρ' : Names} {own own' : Nat → List Nat} {hp hp' : List (Nat × Chunk R)} {F F' X T : Nat → Prop} {w w' : World} (h : LI A P B ρ own hp F w) (hm : ModP T w w') (hle : ρ.le ρ')
    (hT : ∀ b, T b → ∃ n c, X n ∧ F n ∧ hget n hp = some c ∧ b ∈ own n)
    (same : ∀ n c, F' n → ¬ X n → hget n hp' = some c → F n ∧ hget n hp = some c ∧ own' n = own n)
    (new : ∀ n c, F' n → X n → hget n hp' = some c → ∃ e, ρ' n = some e ∧ CAt A P ρ' B e (own' n) c w')
    (pool : ∀ n c, F' n → X n → hget n hp' = some c → ∀ b ∈ own' n, b < w'.heap.size ∧ B ≤ b ∧ (w.heap.size ≤ b ∨ ∃ m c, X m ∧ F m ∧ hget m hp = some c ∧ b ∈ own m))
    (dis : ∀ n m c d, F' n → F' m → X n → X m → n ≠ m → hget n hp' = some c → hget m hp' = some d → ∀ b ∈ own' n, b ∉ own' m) : LI A P B ρ' own' hp' F' w' := by
  have hTB : ∀ x, T x → B ≤ x := fun x hx => by
    obtain ⟨n, c, _, h1, h2, h3⟩ := hT x hx
    exact (h.low n c h1 h2 x h3).1
  refine ⟨fun n c hn hc => ?_, fun n m c d hn hm' hne hc hd b hb hb' => ?_, fun n c hn hc b hb => ?_⟩
  · by_cases hX : X n
    · exact new n c hn hX hc
    · obtain ⟨h1, h2, h3⟩ := same n c hn hX hc
      obtain ⟨e, h4, h5⟩ := h.at_ n c h1 h2
      refine ⟨e, hle n e h4, ?_⟩
      rw [h3]
      refine h5.stable hle hm (fun x hx ht => ?_) hTB
      obtain ⟨m, d, g1, g2, g3, g4⟩ := hT x ht
      exact h.dis n m c d h1 g2 (fun e => hX (e ▸ g1)) h2 g3 x hx g4
  · by_cases hX : X n <;> by_cases hY : X m
    · exact dis n m c d hn hm' hX hY hne hc hd b hb hb'
    · obtain ⟨h1, h2, h3⟩ := same m d hm' hY hd
      rw [h3] at hb'
      rcases (pool n c hn hX hc b hb).2.2 with h4 | ⟨k, ck, g1, g2, g3, g4⟩
      · have := (h.low m d h1 h2 b hb').2
        omega
      · exact h.dis k m ck d g2 h1 (fun e => hY (e ▸ g1)) g3 h2 b g4 hb'
    · obtain ⟨h1, h2, h3⟩ := same n c hn hX hc
      rw [h3] at hb
      rcases (pool m d hm' hY hd b hb').2.2 with h4 | ⟨k, ck, g1, g2, g3, g4⟩
      · have := (h.low n c h1 h2 b hb).2
        omega
      · exact h.dis k n ck c g2 h1 (fun e => hX (e ▸ g1)) g3 h2 b g4 hb
    · obtain ⟨h1, h2, h3⟩ := same n c hn hX hc
      obtain ⟨h4, h5, h6⟩ := same m d hm' hY hd
      rw [h3] at hb
      rw [h6] at hb'
      exact h.dis n m c d h1 h4 hne h2 h5 b hb hb'
  · by_cases hX : X n
    · have := pool n c hn hX hc b hb
      exact ⟨this.2.1, this.1⟩
    · obtain ⟨h1, h2, h3⟩ := same n c hn hX hc
      rw [h3] at hb
      have := h.low n c h1 h2 b hb
      exact ⟨this.1, Nat.lt_of_lt_of_le this.2 hm.size⟩
end
end Go.Proofs.Ytkndpdmopgmlcaa
end
section
/- How the executor's state goes on, and that the machine's does: steps, and one behind the other. No condition. -/
namespace Go.Proofs.Ytkndpdmopgmlcaa

section
variable {R α β : Type}
theorem bind_ok {m : M R α} {f : α → M R β} {st st' : St R} {b : β} : (m.bind f) st = .ok b st' ↔ ∃ a st1, m st = .ok a st1 ∧ f a st1 = .ok b st' := by
  unfold M.bind
  cases h : m st with
  | ok a st1 =>
    constructor
    · exact fun hf => ⟨a, st1, rfl, hf⟩
    · rintro ⟨a', st2, he, hf⟩
      injection he with h1 h2
      subst h1
      subst h2
      exact hf
  | no e l => simp
theorem ret_ok {a b : α} {st st' : St R} : (M.ret a) st = .ok b st' ↔ a = b ∧ st = st' := by simp [M.ret]
theorem fail_ok {e : Nat} {b : α} {st st' : St R} : (M.fail e) st = .ok b st' ↔ False := by simp [M.fail]
theorem opt_ok {e : Nat} {o : Option α} {b : α} {st st' : St R} : (M.opt e o) st = .ok b st' ↔ o = some b ∧ st = st' := by
  cases o <;> simp [M.opt, M.ret, M.fail]
theorem getC_ok {n : Nat} {c : Chunk R} {st st' : St R} : (getC n) st = .ok c st' ↔ hget n st.hp = some c ∧ st' = { st with fr := insN n st.fr } := by
  obtain ⟨hp, nx, fr, wr, ak, oc⟩ := st
  simp only [getC]
  cases hget n hp <;> simp [eq_comm]
theorem setC_ok {n : Nat} {c : Chunk R} {st st' : St R} {u : Unit} : (setC n c) st = .ok u st' ↔ (∃ d, hget n st.hp = some d) ∧ st' = { st with hp := hset n c st.hp, fr := insN n st.fr, wr := insN n st.wr } := by
  obtain ⟨hp, nx, fr, wr, ak, oc⟩ := st
  simp only [setC]
  cases hget n hp <;> simp [eq_comm]
theorem delC_ok {n : Nat} {st st' : St R} {u : Unit} : (delC n) st = .ok u st' ↔ (∃ d, hget n st.hp = some d) ∧ st' = { st with hp := hdel n st.hp, fr := insN n st.fr, wr := insN n st.wr } := by
  obtain ⟨hp, nx, fr, wr, ak, oc⟩ := st
  simp only [delC]
  cases hget n hp <;> simp [eq_comm]
theorem newC_ok {n : Nat} {c : Chunk R} {st st' : St R} : (newC c) st = .ok n st' ↔ n = st.nx ∧ st' = { st with hp := (st.nx, c) :: st.hp, nx := st.nx + 1 } := by
  obtain ⟨hp, nx, fr, wr, ak, oc⟩ := st
  simp [newC, eq_comm]
theorem want_ok {e : Nat} {b : Bool} {u : Unit} {st st' : St R} : (want e b) st = .ok u st' ↔ b = true ∧ st = st' := by
  cases b <;> simp [want, M.ret, M.fail]
theorem mem_ins {n m : Nat} {l : List Nat} : m ∈ insN n l ↔ m = n ∨ m ∈ l := by
  have hm : memN n l = true ↔ n ∈ l := by
    induction l with
    | nil => simp [memN]
    | cons x l ih =>
      simp only [memN]
      cases h : Nat.beq n x with
      | true => simp [Nat.eq_of_beq_eq_true h]
      | false => simp [ih, Nat.ne_of_beq_eq_false h]
  unfold insN
  cases h : memN n l with
  | true =>
    have := hm.1 h
    constructor
    · exact .inr
    · rintro (rfl | h) <;> assumption
  | false => simp
theorem memN_iff {n : Nat} {l : List Nat} : memN n l = true ↔ n ∈ l := by
  induction l with
  | nil => simp [memN]
  | cons x l ih =>
    simp only [memN]
    cases h : Nat.beq n x with
    | true => simp [Nat.eq_of_beq_eq_true h]
    | false => simp [ih, Nat.ne_of_beq_eq_false h]
theorem mem_uni {m : Nat} {a b : List Nat} : m ∈ uniN a b ↔ m ∈ a ∨ m ∈ b := by
  unfold uniN
  induction a with
  | nil => simp
  | cons x a ih => simp [mem_ins, ih, or_assoc]
theorem beq_no {m n : Nat} (h : ¬ m = n) : Nat.beq m n = false := by
  cases hb : Nat.beq m n with
  | true => exact absurd (Nat.eq_of_beq_eq_true hb) h
  | false => rfl
theorem hget_set {n m : Nat} {c : Chunk R} {hp : List (Nat × Chunk R)} : hget m (hset n c hp) = if m = n then (hget n hp).map (fun _ => c) else hget m hp := by
  induction hp with
  | nil => simp [hset, hget]
  | cons p hp ih =>
    obtain ⟨k, d⟩ := p
    simp only [hset]
    cases h : Nat.beq n k with
    | true =>
      obtain rfl := Nat.eq_of_beq_eq_true h
      simp only [hget, h]
      by_cases hm : m = n
      · subst hm; simp
      · have : Nat.beq m n = false := beq_no hm
        simp [this, hm]
    | false =>
      simp only [hget, h]
      by_cases hm : m = n
      · subst hm; simp [h, ih]
      · cases hk : Nat.beq m k with
        | true => simp [hm]
        | false => simp [ih, hm]
theorem hget_del {n m : Nat} {hp : List (Nat × Chunk R)} : hget m (hdel n hp) = if m = n then none else hget m hp := by
  induction hp with
  | nil => simp [hdel, hget]
  | cons p hp ih =>
    obtain ⟨k, d⟩ := p
    simp only [hdel]
    cases h : Nat.beq n k with
    | true =>
      obtain rfl := Nat.eq_of_beq_eq_true h
      simp only [hget, ih]
      by_cases hm : m = n
      · simp [hm]
      · have : Nat.beq m n = false := beq_no hm
        simp [this, hm]
    | false =>
      simp only [hget, ih]
      by_cases hm : m = n
      · subst hm; simp [h]
      · cases hk : Nat.beq m k <;> simp [hm]
theorem hget_cons {n m : Nat} {c : Chunk R} {hp : List (Nat × Chunk R)} : hget m ((n, c) :: hp) = if m = n then some c else hget m hp := by
  simp only [hget]
  by_cases hm : m = n
  · subst hm; simp
  · have : Nat.beq m n = false := beq_no hm
    simp [this, hm]

def newN (st st' : St R) (n : Nat) : Prop := st.nx ≤ n ∧ n < st'.nx
structure Wf (st : St R) : Prop where
  wr : ∀ n ∈ st.wr, n ∈ st.fr ∧ n < st.nx
  top : ∀ n, st.nx ≤ n → hget n st.hp = none
theorem Wf.lt {st : St R} (h : Wf st) {n : Nat} {c : Chunk R} (hc : hget n st.hp = some c) : n < st.nx := by
  rcases Nat.lt_or_ge n st.nx with h1 | h1
  · exact h1
  · rw [h.top n h1] at hc; cases hc

/-- What the executor's own state keeps. -/
structure Fn (st st' : St R) : Prop where
  nx : st.nx ≤ st'.nx
  fr : ∀ n ∈ st.fr, n ∈ st'.fr
  wr : ∀ n ∈ st.wr, n ∈ st'.wr
  ask : ∀ p ∈ st.ask, p ∈ st'.ask
  hp : ∀ n, n ∉ st'.wr → n < st.nx → hget n st'.hp = hget n st.hp
  wf : Wf st → Wf st'
  al : ∀ n ∈ st'.wr, n ∈ st.wr ∨ st.nx ≤ n ∨ ∃ c, hget n st.hp = some c

theorem Fn.refl (st : St R) : Fn st st := ⟨Nat.le_refl _, fun _ h => h, fun _ h => h, fun _ h => h, fun _ _ _ => rfl, fun h => h, fun _ h => .inl h⟩
theorem Fn.trans {a b c : St R} (h : Fn a b) (k : Fn b c) : Fn a c where
  nx := Nat.le_trans h.nx k.nx
  fr n hn := k.fr n (h.fr n hn)
  wr n hn := k.wr n (h.wr n hn)
  ask p hp := k.ask p (h.ask p hp)
  hp n hn hl := (k.hp n hn (Nat.lt_of_lt_of_le hl h.nx)).trans (h.hp n (fun hw => hn (k.wr n hw)) hl)
  wf ht := k.wf (h.wf ht)
  al n hn := by
    rcases k.al n hn with h1 | h1 | ⟨d, h1⟩
    · exact h.al n h1
    · exact .inr (.inl (Nat.le_trans h.nx h1))
    · by_cases hb : n ∈ b.wr
      · exact h.al n hb
      · rcases Nat.lt_or_ge n a.nx with hl | hl
        · exact .inr (.inr ⟨d, (h.hp n hb hl).symm.trans h1⟩)
        · exact .inr (.inl hl)

/-- Only notes have been taken. -/
structure Quiet (st st' : St R) : Prop where
  hp : st'.hp = st.hp
  nx : st'.nx = st.nx
  wr : st'.wr = st.wr
  fr : ∀ n ∈ st.fr, n ∈ st'.fr
  ask : ∀ p ∈ st.ask, p ∈ st'.ask
theorem Quiet.refl (st : St R) : Quiet st st := ⟨rfl, rfl, rfl, fun _ h => h, fun _ h => h⟩
theorem Quiet.trans {a b c : St R} (h : Quiet a b) (k : Quiet b c) : Quiet a c := ⟨k.hp.trans h.hp, k.nx.trans h.nx, k.wr.trans h.wr, fun n hn => k.fr n (h.fr n hn), fun p hp => k.ask p (h.ask p hp)⟩
theorem Quiet.fn {st st' : St R} (h : Quiet st st') : Fn st st' where
  nx := by rw [h.nx]; exact Nat.le_refl _
  fr := h.fr
  wr n hn := by rw [h.wr]; exact hn
  ask := h.ask
  hp n _ _ := by rw [h.hp]
  wf hw := ⟨fun n hn => by rw [h.wr] at hn; rw [h.nx]; exact ⟨h.fr n (hw.wr n hn).1, (hw.wr n hn).2⟩, fun n hn => by rw [h.hp]; exact hw.top n (h.nx ▸ hn)⟩
  al n hn := .inl (h.wr ▸ hn)
theorem Quiet.get {n : Nat} {st : St R} : Quiet st { st with fr := insN n st.fr } := ⟨rfl, rfl, rfl, fun _ h => mem_ins.2 (.inr h), fun _ h => h⟩
theorem ask_ok {b r : Bool} {st st' : St R} (h : (askB b) st = .ok r st') : Quiet st st' ∧ ((∀ p ∈ st'.ask, p.1 = p.2) → b = r) := by
  obtain ⟨hp, nx, fr, wr, ak, oc⟩ := st
  simp only [askB] at h
  split at h <;> simp only [Res.ok.injEq] at h <;> obtain ⟨rfl, rfl⟩ := h
  · exact ⟨⟨rfl, rfl, rfl, fun _ h => h, fun _ h => List.mem_cons_of_mem _ h⟩, fun h => h _ (List.mem_cons_self ..)⟩
  · exact ⟨⟨rfl, rfl, rfl, fun _ h => h, fun _ h => h⟩, fun _ => rfl⟩
  · exact ⟨⟨rfl, rfl, rfl, fun _ h => h, fun _ h => h⟩, fun _ => rfl⟩
theorem need_ok {e : Nat} {b : Bool} {u : Unit} {st st' : St R} (h : (need e b) st = .ok u st') : Quiet st st' ∧ ((∀ p ∈ st'.ask, p.1 = p.2) → b = true) := by
  obtain ⟨r, st1, h1, h2⟩ := bind_ok.1 h
  obtain ⟨hq, hb⟩ := ask_ok h1
  cases r with
  | false => simp [M.fail] at h2
  | true =>
    simp only [M.ret, Res.ok.injEq] at h2
    obtain ⟨_, rfl⟩ := h2
    exact ⟨hq, hb⟩
end

section
variable {R : Type} (A : RepAt R) (P : Program)
/-- The machine has gone along. -/
structure Tr (B : Nat) (F : Nat → Prop) (st st' : St R) (ρ : Names) (own : Nat → List Nat) (w : World) (ρ' : Names) (own' : Nat → List Nat) (w' : World) : Prop where
  le : ρ.le ρ'
  out : ∀ n, ¬ newN st st' n → ρ' n = ρ n
  same : ∀ n, ¬ newN st st' n → n ∉ st'.wr → own' n = own n
  pool : ∀ n, newN st st' n ∨ n ∈ st'.wr → ∀ b ∈ own' n, w.heap.size ≤ b ∨ ∃ m, m ∈ st'.wr ∧ ¬ newN st st' m ∧ b ∈ own m
  li : LI A P B ρ' own' st'.hp (fun n => F n ∨ newN st st' n) w'
  mod : ModP (fun b => ∃ m, m ∈ st'.wr ∧ ¬ newN st st' m ∧ b ∈ own m) w w'

/-- How things stand ahead of a step that ends in st'. -/
structure Sit (B : Nat) (F : Nat → Prop) (st st' : St R) (ρ : Names) (own : Nat → List Nat) (w : World) : Prop where
  log : ∀ n ∈ st'.fr, F n
  wf : Wf st
  fresh : ∀ n, newN st st' n → ρ n = none
  li : LI A P B ρ own st.hp F w
  ask : ∀ p ∈ st'.ask, p.1 = p.2
  base : B ≤ w.heap.size

variable {A P} {B : Nat} {F : Nat → Prop} {st st1 st' : St R} {ρ ρ1 ρ' : Names} {own own1 own' : Nat → List Nat} {w w1 w' : World}
theorem newN_self {n : Nat} (h : st'.nx = st.nx) : ¬ newN st st' n := fun ⟨h1, h2⟩ => by omega
theorem Tr.quiet (h : Quiet st st') (hli : LI A P B ρ own st.hp F w) : Tr A P B F st st' ρ own w ρ own w where
  le := Names.le.refl _
  out _ _ := rfl
  same _ _ _ := rfl
  pool n hn b hb := by
    have := newN_self (n := n) h.nx
    exact .inr ⟨n, hn.resolve_left this, this, hb⟩
  li := by rw [h.hp]; exact hli.sub fun n hn => hn.resolve_right (newN_self h.nx)
  mod := ModP.refl _ _
theorem Sit.quiet (s : Sit A P B F st st' ρ own w) (h : Quiet st st') : Tr A P B F st st' ρ own w ρ own w := Tr.quiet h s.li

theorem new_of (f1 : Fn st st1) (f2 : Fn st1 st') {n : Nat} : newN st st' n ↔ newN st st1 n ∨ newN st1 st' n := by
  have := f1.nx
  have := f2.nx
  unfold newN
  omega
theorem Tr.trans (h : Tr A P B F st st1 ρ own w ρ1 own1 w1) (k : Tr A P B (fun n => F n ∨ newN st st1 n) st1 st' ρ1 own1 w1 ρ' own' w') (f1 : Fn st st1) (f2 : Fn st1 st') (hw : Wf st1) : Tr A P B F st st' ρ own w ρ' own' w' := by
  have back : ∀ {n b}, ¬ newN st1 st' n → n ∈ st'.wr → b ∈ own1 n → w.heap.size ≤ b ∨ ∃ m, m ∈ st'.wr ∧ ¬ newN st st' m ∧ b ∈ own m := by
    intro n b hn hnw hb
    by_cases h1 : newN st st1 n ∨ n ∈ st1.wr
    · rcases h.pool n h1 b hb with h2 | ⟨m, h2, h3, h4⟩
      · exact .inl h2
      · refine .inr ⟨m, f2.wr m h2, fun hx => ?_, h4⟩
        rcases (new_of f1 f2).1 hx with h5 | h5
        · exact h3 h5
        · have := (hw.wr m h2).2
          have := h5.1
          omega
    · rw [not_or] at h1
      rw [h.same n h1.1 h1.2] at hb
      exact .inr ⟨n, hnw, fun hx => ((new_of f1 f2).1 hx).elim h1.1 hn, hb⟩
  refine ⟨h.le.trans k.le, fun n hn => ?_, fun n hn hnw => ?_, fun n hn b hb => ?_, k.li.sub fun n hn => ?_, ?_⟩
  · rw [new_of f1 f2, not_or] at hn
    rw [k.out n hn.2, h.out n hn.1]
  · rw [new_of f1 f2, not_or] at hn
    rw [k.same n hn.2 hnw, h.same n hn.1 (fun hx => hnw (f2.wr n hx))]
  · by_cases h2 : newN st1 st' n ∨ n ∈ st'.wr
    · rcases k.pool n h2 b hb with h3 | ⟨m, h3, h4, h5⟩
      · exact .inl (Nat.le_trans h.mod.size h3)
      · exact back h4 h3 h5
    · rw [not_or] at h2
      have h3 : newN st st1 n := by
        rcases hn with hn | hn
        · exact ((new_of f1 f2).1 hn).resolve_right h2.1
        · exact absurd hn h2.2
      rw [k.same n h2.1 h2.2] at hb
      rcases h.pool n (.inl h3) b hb with h4 | ⟨m, h4, h5, h6⟩
      · exact .inl h4
      · refine .inr ⟨m, f2.wr m h4, fun hx => ?_, h6⟩
        rcases (new_of f1 f2).1 hx with h7 | h7
        · exact h5 h7
        · have := (hw.wr m h4).2
          have := h7.1
          omega
  · rw [or_assoc, ← new_of f1 f2]
    exact hn
  · have m1 : ModP (fun b => ∃ m, m ∈ st'.wr ∧ ¬ newN st st' m ∧ b ∈ own m) w w1 := h.mod.mono (fun b _ ⟨m, h1, h2, h3⟩ => by
      refine ⟨m, f2.wr m h1, fun hx => ?_, h3⟩
      rcases (new_of f1 f2).1 hx with h7 | h7
      · exact h2 h7
      · have := (hw.wr m h1).2
        have := h7.1
        omega)
    exact m1.trans k.mod (fun b hb ⟨m, h1, h2, h3⟩ => (back h2 h1 h3).resolve_left (by omega))

/-- The next step's situation. -/
theorem Sit.next (s : Sit A P B F st st' ρ own w) (f1 : Fn st st1) (f2 : Fn st1 st') (t : Tr A P B F st st1 ρ own w ρ1 own1 w1) : Sit A P B (fun n => F n ∨ newN st st1 n) st1 st' ρ1 own1 w1 where
  log n hn := .inl (s.log n hn)
  wf := f1.wf s.wf
  fresh n hn := by
    rw [t.out n (fun hx => by have := hx.2; have := hn.1; omega)]
    exact s.fresh n ((new_of f1 f2).2 (.inr hn))
  li := t.li
  ask := s.ask
  base := Nat.le_trans s.base t.mod.size
/-- The first step's. -/
theorem Sit.head (s : Sit A P B F st st' ρ own w) (f1 : Fn st st1) (f2 : Fn st1 st') : Sit A P B F st st1 ρ own w where
  log n hn := s.log n (f2.fr n hn)
  wf := s.wf
  fresh n hn := s.fresh n ((new_of f1 f2).2 (.inl hn))
  li := s.li
  ask p hp := s.ask p (f2.ask p hp)
  base := s.base
end
end Go.Proofs.Ytkndpdmopgmlcaa
end
section
/- The executor's three ways to turn memory: a new piece, another content, a piece that goes on under a new name. No condition. -/
namespace Go.Proofs.Ytkndpdmopgmlcaa

section
variable {R : Type} {A : RepAt R} {P : Program} {B : Nat} {F : Nat → Prop} {st st' : St R} {ρ : Names} {own : Nat → List Nat} {w w' : World}

def Names.put (ρ : Names) (n : Nat) (e : Spot) : Names := fun m => if m = n then some e else ρ m
theorem Names.put_le {n : Nat} {e : Spot} (h : ρ n = none) : ρ.le (ρ.put n e) := fun m d hm => by
  unfold Names.put
  by_cases hn : m = n
  · subst hn; rw [h] at hm; cases hm
  · simp [hn, hm]
theorem Names.put_same {n : Nat} {e : Spot} : (ρ.put n e) n = some e := by simp [Names.put]
theorem Names.put_other {n m : Nat} {e : Spot} (h : m ≠ n) : (ρ.put n e) m = ρ m := by simp [Names.put, h]
def ownPut (own : Nat → List Nat) (n : Nat) (l : List Nat) : Nat → List Nat := fun m => if m = n then l else own m
theorem ownPut_same {n : Nat} {l : List Nat} : ownPut own n l n = l := by simp [ownPut]
theorem ownPut_other {n m : Nat} {l : List Nat} (h : m ≠ n) : ownPut own n l m = own m := by simp [ownPut, h]

def St.new (st : St R) (c : Chunk R) : St R := { st with hp := (st.nx, c) :: st.hp, nx := st.nx + 1 }
def St.set (st : St R) (n : Nat) (c : Chunk R) : St R := { st with hp := hset n c st.hp, fr := insN n st.fr, wr := insN n st.wr }
def St.move (st : St R) (n : Nat) (c : Chunk R) : St R := { st with hp := (st.nx, c) :: hdel n st.hp, nx := st.nx + 1, fr := insN n st.fr, wr := insN n st.wr }

theorem Fn.new (st : St R) (c : Chunk R) : Fn st (st.new c) where
  nx := Nat.le_succ _
  fr _ h := h
  wr _ h := h
  ask _ h := h
  hp n _ hl := by simp only [St.new]; rw [hget_cons, if_neg (by omega)]
  wf hw := ⟨fun n hn => ⟨(hw.wr n hn).1, Nat.lt_succ_of_lt (hw.wr n hn).2⟩, fun n hn => by
    simp only [St.new] at hn ⊢
    rw [hget_cons, if_neg (by omega)]
    exact hw.top n (by omega)⟩
  al _ h := .inl h
theorem Fn.set (st : St R) (n : Nat) (c d : Chunk R) (hd : hget n st.hp = some d) : Fn st (st.set n c) where
  nx := Nat.le_refl _
  fr _ h := mem_ins.2 (.inr h)
  wr _ h := mem_ins.2 (.inr h)
  ask _ h := h
  hp m hm _ := by
    simp only [St.set] at hm ⊢
    rw [mem_ins, not_or] at hm
    rw [hget_set, if_neg hm.1]
  wf hw := ⟨fun m hm => by
    simp only [St.set] at hm ⊢
    rcases mem_ins.1 hm with rfl | hm
    · exact ⟨mem_ins.2 (.inl rfl), hw.lt hd⟩
    · exact ⟨mem_ins.2 (.inr (hw.wr m hm).1), (hw.wr m hm).2⟩, fun m hm => by
    simp only [St.set] at hm ⊢
    rw [hget_set, hw.top m hm]
    split
    · next e => subst e; rw [hw.top m hm]; rfl
    · rfl⟩
  al m hm := by
    simp only [St.set] at hm
    rcases mem_ins.1 hm with rfl | hm
    · exact .inr (.inr ⟨d, hd⟩)
    · exact .inl hm
theorem Fn.move (st : St R) (n : Nat) (c d : Chunk R) (hd : hget n st.hp = some d) : Fn st (st.move n c) where
  nx := Nat.le_succ _
  fr _ h := mem_ins.2 (.inr h)
  wr _ h := mem_ins.2 (.inr h)
  ask _ h := h
  hp m hm hl := by
    simp only [St.move] at hm ⊢
    rw [mem_ins, not_or] at hm
    rw [hget_cons, if_neg (by omega), hget_del, if_neg hm.1]
  wf hw := ⟨fun m hm => by
    simp only [St.move] at hm ⊢
    rcases mem_ins.1 hm with rfl | hm
    · exact ⟨mem_ins.2 (.inl rfl), Nat.lt_succ_of_lt (hw.lt hd)⟩
    · exact ⟨mem_ins.2 (.inr (hw.wr m hm).1), Nat.lt_succ_of_lt (hw.wr m hm).2⟩, fun m hm => by
    simp only [St.move] at hm ⊢
    rw [hget_cons, if_neg (by omega), hget_del, hw.top m (by omega)]
    split <;> rfl⟩
  al m hm := by
    simp only [St.move] at hm
    rcases mem_ins.1 hm with rfl | hm
    · exact .inr (.inr ⟨d, hd⟩)
    · exact .inl hm

theorem newN_new {c : Chunk R} {n : Nat} : newN st (st.new c) n ↔ n = st.nx := by unfold newN St.new; simp only; omega
theorem newN_set {c : Chunk R} {k n : Nat} : ¬ newN st (st.set k c) n := by unfold newN St.set; simp only; omega
theorem newN_move {c : Chunk R} {k n : Nat} : newN st (st.move k c) n ↔ n = st.nx := by unfold newN St.move; simp only; omega

/-- A new piece. -/
theorem Tr.new {c : Chunk R} (s : Sit A P B F st (st.new c) ρ own w) (e : Spot) (own0 : List Nat) (hm : ModP (fun _ => False) w w') (hc : CAt A P (ρ.put st.nx e) B e own0 c w') (ho : ∀ b ∈ own0, w.heap.size ≤ b ∧ b < w'.heap.size) :
    Tr A P B F st (st.new c) ρ own w (ρ.put st.nx e) (ownPut own st.nx own0) w' := by
  have hle : ρ.le (ρ.put st.nx e) := Names.put_le (s.fresh st.nx (newN_new.2 rfl))
  refine ⟨hle, fun n hn => Names.put_other (fun h => hn (newN_new.2 h)), fun n hn _ => ownPut_other (fun h => hn (newN_new.2 h)), fun n hn b hb => ?_, ?_, hm.mono (fun _ _ h => h.elim)⟩
  · rw [newN_new] at hn
    by_cases h : n = st.nx
    · subst h
      rw [ownPut_same] at hb
      exact .inl (ho b hb).1
    · rw [ownPut_other h] at hb
      exact .inr ⟨n, hn.resolve_left h, fun hx => h (newN_new.1 hx), hb⟩
  · refine s.li.step (X := fun n => n = st.nx) hm hle (fun b hb => hb.elim) (fun n d hn hX hd => ?_) (fun n d _ hX hd => ?_) (fun n d _ hX _ b hb => ?_) (fun n m _ _ _ _ h1 h2 hne => absurd (h1.trans h2.symm) hne)
    · rw [newN_new] at hn
      simp only [St.new] at hd
      rw [hget_cons, if_neg hX] at hd
      exact ⟨hn.resolve_right hX, hd, ownPut_other hX⟩
    · subst hX
      simp only [St.new] at hd
      rw [hget_cons, if_pos rfl] at hd
      injection hd with hd
      subst hd
      exact ⟨e, Names.put_same, by rw [ownPut_same]; exact hc⟩
    · subst hX
      rw [ownPut_same] at hb
      exact ⟨(ho b hb).2, Nat.le_trans s.base (ho b hb).1, .inl (ho b hb).1⟩

/-- Another content. -/
theorem Tr.set {n : Nat} {c d : Chunk R} {e : Spot} (s : Sit A P B F st (st.set n c) ρ own w) (hd : hget n st.hp = some d) (he : ρ n = some e) (own0 : List Nat) (hm : ModP (fun b => b ∈ own n) w w')
    (hc : CAt A P ρ B e own0 c w') (ho : ∀ b ∈ own0, b ∈ own n ∨ (w.heap.size ≤ b ∧ b < w'.heap.size)) : Tr A P B F st (st.set n c) ρ own w ρ (ownPut own n own0) w' := by
  have hF : F n := s.log n (mem_ins.2 (.inl rfl))
  have hwr : n ∈ (st.set n c).wr := mem_ins.2 (.inl rfl)
  have hlow := fun b hb => s.li.low n d hF hd b hb
  refine ⟨Names.le.refl _, fun _ _ => rfl, fun m _ hm => ownPut_other (fun h => hm (h ▸ hwr)), fun m hmm b hb => ?_, ?_, hm.mono (fun b _ h => ⟨n, hwr, newN_set, h⟩)⟩
  · by_cases h : m = n
    · subst h
      rw [ownPut_same] at hb
      rcases ho b hb with h1 | h1
      · exact .inr ⟨m, hwr, newN_set, h1⟩
      · exact .inl h1.1
    · rw [ownPut_other h] at hb
      exact .inr ⟨m, hmm.resolve_left newN_set, newN_set, hb⟩
  · refine s.li.step (X := fun m => m = n) hm (Names.le.refl _) (fun b hb => ⟨n, d, rfl, hF, hd, hb⟩) (fun m x hx hX hx' => ?_) (fun m x _ hX hx => ?_) (fun m x _ hX _ b hb => ?_) (fun m k _ _ _ _ h1 h2 hne => absurd (h1.trans h2.symm) hne)
    · simp only [St.set] at hx'
      rw [hget_set, if_neg hX] at hx'
      exact ⟨hx.resolve_right newN_set, hx', ownPut_other hX⟩
    · subst hX
      simp only [St.set] at hx
      rw [hget_set, if_pos rfl, hd] at hx
      injection hx with hx
      subst hx
      exact ⟨e, he, by rw [ownPut_same]; exact hc⟩
    · subst hX
      rw [ownPut_same] at hb
      rcases ho b hb with h1 | h1
      · exact ⟨Nat.lt_of_lt_of_le (hlow b h1).2 hm.size, (hlow b h1).1, .inr ⟨m, d, rfl, hF, hd, h1⟩⟩
      · exact ⟨h1.2, Nat.le_trans s.base h1.1, .inl h1.1⟩

/-- A piece goes on under a new name. -/
theorem Tr.move {n : Nat} {c d : Chunk R} (s : Sit A P B F st (st.move n c) ρ own w) (hd : hget n st.hp = some d) (e : Spot) (own0 : List Nat) (hm : ModP (fun b => b ∈ own n) w w')
    (hc : CAt A P (ρ.put st.nx e) B e own0 c w') (ho : ∀ b ∈ own0, b ∈ own n ∨ (w.heap.size ≤ b ∧ b < w'.heap.size)) : Tr A P B F st (st.move n c) ρ own w (ρ.put st.nx e) (ownPut own st.nx own0) w' := by
  have hF : F n := s.log n (mem_ins.2 (.inl rfl))
  have hwr : n ∈ (st.move n c).wr := mem_ins.2 (.inl rfl)
  have hlt := s.wf.lt hd
  have hnn : ¬ newN st (st.move n c) n := fun h => by rw [newN_move] at h; omega
  have hlow := fun b hb => s.li.low n d hF hd b hb
  have hle : ρ.le (ρ.put st.nx e) := Names.put_le (s.fresh st.nx (newN_move.2 rfl))
  refine ⟨hle, fun n hn => Names.put_other (fun h => hn (newN_move.2 h)), fun n hn _ => ownPut_other (fun h => hn (newN_move.2 h)), fun m hmm b hb => ?_, ?_, hm.mono (fun b _ h => ⟨n, hwr, hnn, h⟩)⟩
  · rw [newN_move] at hmm
    by_cases h : m = st.nx
    · subst h
      rw [ownPut_same] at hb
      rcases ho b hb with h1 | h1
      · exact .inr ⟨n, hwr, hnn, h1⟩
      · exact .inl h1.1
    · rw [ownPut_other h] at hb
      exact .inr ⟨m, hmm.resolve_left h, fun hx => h (newN_move.1 hx), hb⟩
  · refine s.li.step (X := fun m => m = n ∨ m = st.nx) hm hle (fun b hb => ⟨n, d, .inl rfl, hF, hd, hb⟩) (fun m x hx hX hx' => ?_) (fun m x _ hX hx => ?_) (fun m x _ hX hx b hb => ?_) (fun m k x y _ _ h1 h2 hne hx hy => ?_)
    · rw [not_or] at hX
      simp only [St.move] at hx'
      rw [hget_cons, if_neg hX.2, hget_del, if_neg hX.1] at hx'
      exact ⟨hx.resolve_right (fun h => hX.2 (newN_move.1 h)), hx', ownPut_other hX.2⟩
    · simp only [St.move] at hx
      rw [hget_cons] at hx
      by_cases h : m = st.nx
      · subst h
        rw [if_pos rfl] at hx
        injection hx with hx
        subst hx
        exact ⟨e, Names.put_same, by rw [ownPut_same]; exact hc⟩
      · rw [if_neg h, hget_del, if_pos (hX.resolve_right h)] at hx
        cases hx
    · simp only [St.move] at hx
      rw [hget_cons] at hx
      by_cases h : m = st.nx
      · subst h
        rw [ownPut_same] at hb
        rcases ho b hb with h1 | h1
        · exact ⟨Nat.lt_of_lt_of_le (hlow b h1).2 hm.size, (hlow b h1).1, .inr ⟨n, d, .inl rfl, hF, hd, h1⟩⟩
        · exact ⟨h1.2, Nat.le_trans s.base h1.1, .inl h1.1⟩
      · rw [if_neg h, hget_del, if_pos (hX.resolve_right h)] at hx
        cases hx
    · simp only [St.move] at hx hy
      rw [hget_cons] at hx hy
      have g1 : m = st.nx := by
        by_cases h : m = st.nx
        · exact h
        · rw [if_neg h, hget_del, if_pos (h1.resolve_right h)] at hx; cases hx
      have g2 : k = st.nx := by
        by_cases h : k = st.nx
        · exact h
        · rw [if_neg h, hget_del, if_pos (h2.resolve_right h)] at hy; cases hy
      exact absurd (g1.trans g2.symm) hne
end
end Go.Proofs.Ytkndpdmopgmlcaa
end
section
/- What the executor says of operations that neither read nor write, the machine does. No condition. -/
namespace Go.Proofs.Ytkndpdmopgmlcaa

def Ev (ρ : Names) (ev : Operand → Option SV) (a : Act) : Prop := ∀ x s, ev x = some s → den ρ s = some (a.eval x)

section
variable {P : Program}
theorem pureRun_run {α : Type} : ∀ {m : Sem α} {x : α}, pureRun P m = some x → ∀ w, m.run P w = .ok x w
  | .pure a, x, h, w => by
    simp only [pureRun, Option.some.injEq] at h
    rw [h]
    rfl
  | .program k, x, h, w => by
    simp only [pureRun] at h
    exact pureRun_run h w
  | .load _ _ _, _, h, _ | .store _ _ _ _, _, h, _ | .new _ _, _, h, _ | .shape _ _, _, h, _ | .freeze _ _ _, _, h, _ | .frozen _ _, _, h, _ | .getObj _ _, _, h, _
  | .setObj _ _ _, _, h, _ | .choose _ _, _, h, _ | .sys _ _, _, h, _ | .mark _ _, _, h, _ | .halt _, _, h, _ => by simp [pureRun] at h
theorem szT_size {t : TypeId} {k : Nat} (h : szT P t = some k) : ∃ i, P.info? t = some i ∧ i.size = k := by
  unfold szT at h
  cases hi : P.info? t with
  | none => rw [hi] at h; cases h
  | some i => rw [hi] at h; exact ⟨i, rfl, by simpa using h⟩
theorem szT_run {t : TypeId} {k : Nat} (h : szT P t = some k) (w : World) : (sizeOf t).run P w = .ok k w := by
  obtain ⟨i, hi, rfl⟩ := szT_size h
  simp [sizeOf, run_typeInfo w hi]
theorem szT_cells {t : TypeId} {k : Nat} (h : szT P t = some k) : P.cellsOf t = k := by
  obtain ⟨i, hi, rfl⟩ := szT_size h
  simp [Program.cellsOf, hi]
theorem aggT_run {t : TypeId} {b : Bool} (h : aggT P t = some b) (w : World) : (isAgg t).run P w = .ok b w := by
  unfold aggT at h
  cases hu : P.underlying t with
  | none => rw [hu] at h; cases h
  | some d =>
    rw [hu] at h
    unfold isAgg
    rw [Sem.run_bind, run_underlying hu w]
    cases d <;> simp_all
theorem cut_ok {l r : List SV} {off k : Nat} (h : cut l off k = some r) : r = (l.drop off).take k ∧ r.length = k := by
  unfold cut at h
  split at h
  · next hb =>
    injection h with h
    have hb' := Nat.eq_of_beq_eq_true hb
    subst h
    exact ⟨rfl, hb'⟩
  · cases h
theorem part_run {ρ : Names} {t : TypeId} {l : List SV} {off : Nat} {s : SV} {vs : List Value} (h : partX P t l off = some s) (hl : denL ρ l = some vs) :
    ∃ x, den ρ s = some x ∧ ∀ w, (part t vs.toArray off).run P w = .ok x w := by
  unfold partX at h
  cases ha : aggT P t with
  | none => rw [ha] at h; cases h
  | some b =>
    rw [ha] at h
    cases b with
    | true =>
      simp only [Option.bind_eq_some_iff, Option.map_eq_some_iff] at h
      obtain ⟨k, hk, r, hr, rfl⟩ := h
      obtain ⟨rfl, hr⟩ := cut_ok hr
      refine ⟨_, den_agg.2 ⟨_, denL_take (denL_drop hl off) k, rfl⟩, fun w => ?_⟩
      simp only [part, Sem.run_bind, aggT_run ha w, Result.andThen_ok, if_true, szT_run hk w, Sem.run_pure]
      congr 2
      apply Array.ext'
      simp
    | false =>
      simp only at h
      obtain ⟨x, hx, hg⟩ := denL_get hl h
      refine ⟨x, hx, fun w => ?_⟩
      simp only [part, Sem.run_bind, aggT_run ha w, Result.andThen_ok, Bool.false_eq_true, if_false]
      rw [List.getElem?_toArray, hg]
      rfl
theorem fieldOf_ok {t : TypeId} {f : Nat} {fd : Field} (h : fieldOf P t f = some fd) : ∃ fs, P.underlying t = some (.struct fs) ∧ fs[f]? = some fd := by
  unfold fieldOf at h
  split at h
  · next fs hu => exact ⟨fs, hu, h⟩
  · cases h
theorem aggV {ρ : Names} {y : SV} {v : Value} (h : isAggV y = true) (hy : den ρ y = some v) : v = .agg v.cells := by
  cases y with
  | agg l =>
    obtain ⟨vs, _, rfl⟩ := den_agg.1 hy
    rfl
  | v x =>
    simp only [den, Option.some.injEq] at hy
    subst hy
    cases x <;> first | rfl | cases h
  | _ => cases h
theorem fieldX_run {ρ : Names} {t : TypeId} {f : Nat} {y s : SV} {v : Value} (h : fieldX P t f y = some s) (hy : den ρ y = some v) : ∃ x, den ρ s = some x ∧ ∀ w, (Instr.field t v f).run P w = .ok x w := by
  unfold fieldX at h
  cases hf : fieldOf P t f with
  | none => rw [hf] at h; cases h
  | some fd =>
    rw [hf] at h
    obtain ⟨fs, hu, hfs⟩ := fieldOf_ok hf
    simp only at h
    split at h
    · next ha =>
      obtain ⟨x, h1, h2⟩ := part_run h (den_cells hy)
      refine ⟨x, h1, fun w => ?_⟩
      rw [aggV ha hy]
      simp only [Instr.field, Sem.run_bind, run_underlying hu w, Result.andThen_ok, hfs, asAgg, Sem.run_pure]
      simpa using h2 w
    · cases h
theorem add_at (b o k : Nat) : (⟨b, o, none⟩ : Addr).add k = ⟨b, o + k, none⟩ := Addr.add_mid b o k
theorem fieldAddrX_run {ρ : Names} {t : TypeId} {f : Nat} {y s : SV} {v : Value} (h : fieldAddrX P t f y = some s) (hy : den ρ y = some v) : ∃ x, den ρ s = some x ∧ ∀ w, (Instr.fieldAt t v f).run P w = .ok x w := by
  unfold fieldAddrX at h
  cases hf : fieldOf P t f with
  | none => rw [hf] at h; cases h
  | some fd =>
    rw [hf] at h
    obtain ⟨fs, hu, hfs⟩ := fieldOf_ok hf
    simp only at h
    split at h
    · next k hk =>
      have key : ∀ b o, v = .pointer (some ⟨b, o, none⟩) → ∀ w, (Instr.fieldAt t v f).run P w = .ok (.pointer (some ⟨b, o + fd.offset, none⟩)) w := by
        rintro b o rfl w
        simp only [Instr.fieldAt, Sem.run_bind, run_underlying hu w, Result.andThen_ok, hfs, Instr.sureAddr, Sem.run_pure, fieldPlace, szT_run hk w, Nat.succ_ne_zero, if_false, add_at]
      split at h <;> try cases h
      · simp only [den, Option.map_eq_some_iff] at hy ⊢
        obtain ⟨e, he, rfl⟩ := hy
        exact ⟨_, ⟨e, he, rfl⟩, fun w => by rw [key _ _ rfl w, Nat.add_assoc]⟩
      · simp only [den] at hy ⊢
        split at hy <;> try cases hy
        next e he =>
        split at hy <;> cases hy
        next hlt =>
        exact ⟨_, by simp [hlt]; rfl, fun w => by rw [key _ _ rfl w, Nat.add_assoc]⟩
    · cases h

inductive Two {α β : Type} (R : α → β → Prop) : List α → List β → Prop where
  | nil : Two R [] []
  | cons {a : α} {b : β} {l : List α} {m : List β} (h : R a b) (t : Two R l m) : Two R (a :: l) (b :: m)
theorem mapM_two {α β γ : Type} {f : α → Option β} {g : α → γ} {R : β → γ → Prop} (hR : ∀ a b, f a = some b → R b (g a)) : ∀ {l : List α} {r : List β}, l.mapM f = some r → Two R r (l.map g)
  | [], r, h => by
    simp only [List.mapM_nil, Option.pure_def, Option.some.injEq] at h
    subst h
    exact .nil
  | a :: l, r, h => by
    simp only [List.mapM_cons, Option.bind_eq_bind, Option.bind_eq_some_iff, Option.pure_def, Option.some.injEq] at h
    obtain ⟨b, hb, r', hr, rfl⟩ := h
    exact .cons (hR a b hb) (mapM_two hR hr)
theorem denL_two {ρ : Names} : ∀ {l : List SV} {vs : List Value}, Two (fun s x => den ρ s = some x) l vs → denL ρ l = some vs
  | _, _, .nil => rfl
  | _, _, .cons h t => denL_cons.2 ⟨_, _, h, denL_two t, rfl⟩
theorem ev_list {ρ : Names} {ev : Operand → Option SV} {a : Act} (hev : Ev ρ ev a) {l : List Operand} {r : List SV} (h : l.mapM ev = some r) : denL ρ r = some (l.map a.eval) :=
  denL_two (mapM_two (R := fun s x => den ρ s = some x) (fun x s hs => hev x s hs) h)
theorem fill_run {ρ : Names} {place : Nat → Option (Nat × Nat)} : ∀ {parts : List (Nat × SV)} {vparts : List (Nat × Value)} {cells r : List SV} {vs : List Value}, fillX place cells parts = some r → denL ρ cells = some vs →
    Two (fun p q => p.1 = q.1 ∧ den ρ p.2 = some q.2) parts vparts → ∃ rs, denL ρ r = some rs ∧ Instr.fill place vs.toArray vparts = some rs.toArray
  | [], vparts, cells, r, vs, h, hc, hp => by
    cases hp
    simp only [fillX, Option.some.injEq] at h
    subst h
    exact ⟨vs, hc, rfl⟩
  | (i, s) :: parts, vparts, cells, r, vs, h, hc, hp => by
    cases hp with
    | cons h1 h2 =>
      rename_i q qs
      obtain ⟨j, x⟩ := q
      obtain ⟨rfl, hx⟩ := h1
      simp only [fillX] at h
      cases hpl : place i with
      | none => rw [hpl] at h; cases h
      | some os =>
        obtain ⟨off, size⟩ := os
        rw [hpl] at h
        simp only at h
        split at h
        · next hb =>
          simp only [Bool.and_eq_true] at hb
          have hsz := Nat.eq_of_beq_eq_true hb.1
          have hle := Nat.le_of_ble_eq_true hb.2
          have hcx := den_cells hx
          have hl := denL_length hcx
          have hlv := denL_length hc
          simp only [Array.length_toList] at hl
          have e : denL ρ (splice cells off s.cells) = some (vs.take off ++ (x.cells.toList ++ vs.drop (off + x.cells.size))) := by
            unfold splice
            refine denL_append.2 ⟨_, _, denL_take hc off, denL_append.2 ⟨_, _, hcx, ?_, rfl⟩, rfl⟩
            rw [← hl]
            exact denL_drop hc _
          obtain ⟨rs, h3, h4⟩ := fill_run h e h2
          refine ⟨rs, h3, ?_⟩
          simp only [Instr.fill, hpl]
          rw [if_neg (by simp; omega)]
          rw [← h4]
          congr 1
          have key : ∀ (l : List Value) (k : Nat) (cur : Array Value), off + k + l.length ≤ cur.size → ((l.zipIdx k).foldl (fun cs (p : Value × Nat) => cs.setIfInBounds (off + p.2) p.1) cur).toList = cur.toList.take (off + k) ++ (l ++ cur.toList.drop (off + k + l.length)) := by
            intro l
            induction l with
            | nil => intro k cur _; simp
            | cons v l ih =>
              intro k cur hk
              simp only [List.length_cons] at hk
              rw [List.zipIdx_cons, List.foldl_cons, ih (k + 1) _ (by simp; omega)]
              have e := list_seg_step cur.toList (off + k) v l (by simp; omega)
              simpa [Array.toList_setIfInBounds, Nat.add_assoc, List.append_assoc] using e
          apply Array.ext'
          have := key x.cells.toList 0 vs.toArray (by simp; omega)
          rw [← Array.foldl_toList, Array.toList_zipIdx]
          simpa using this
        · cases h
end
end Go.Proofs.Ytkndpdmopgmlcaa
end
section
/- What the executor says of operations that neither read nor write, the machine does: the operations. No condition. -/
namespace Go.Proofs.Ytkndpdmopgmlcaa

section
variable {P : Program} {ρ : Names}
theorem zeroT_run {t : TypeId} {l : List SV} (h : zeroT P t = some l) : ∃ z : Value, denL ρ l = some z.cells.toList ∧ ∀ w, (zeroValue t).run P w = .ok z w := by
  simp only [zeroT, Option.map_eq_some_iff, Option.bind_eq_some_iff] at h
  obtain ⟨z, ⟨i, hi, hz⟩, rfl⟩ := h
  exact ⟨z, denL_vs _, fun w => by simp [zeroValue, run_typeInfo w hi, hz]⟩
theorem mapM_places (w : World) : ∀ (l : List Field) (_ : ∀ f ∈ l, ∃ k, szT P f.type = some k), (l.mapM fun f => (do pure (f.offset, ← sizeOf f.type) : Sem (Nat × Nat))).run P w = .ok (l.map fun f => (f.offset, P.cellsOf f.type)) w
  | [], _ => by simp
  | f :: l, h => by
    obtain ⟨k, hk⟩ := h f (List.mem_cons_self ..)
    have ih := mapM_places w l (fun g hg => h g (List.mem_cons_of_mem _ hg))
    simp only [List.mapM_cons, Sem.run_bind, szT_run hk w, Result.andThen_ok, Sem.run_pure, ih, List.map_cons, szT_cells hk]
theorem fill_congr {p q : Nat → Option (Nat × Nat)} : ∀ {parts : List (Nat × SV)} {cells r : List SV}, fillX p cells parts = some r → (∀ i x, p i = some x → q i = some x) → fillX q cells parts = some r
  | [], _, _, h, _ => h
  | (i, s) :: parts, cells, r, h, hpq => by
    simp only [fillX] at h ⊢
    cases hp : p i with
    | none => rw [hp] at h; cases h
    | some x =>
      obtain ⟨off, size⟩ := x
      rw [hp] at h
      rw [hpq i _ hp]
      simp only at h ⊢
      split at h
      · exact fill_congr h hpq
      · cases h
theorem buildX_run {t : TypeId} {parts : List (Nat × SV)} {vparts : Array (Nat × Value)} {s : SV} (h : buildX P t parts = some s) (hp : Two (fun p q => p.1 = q.1 ∧ den ρ p.2 = some q.2) parts vparts.toList) : ∃ x, den ρ s = some x ∧ ∀ w, (Instr.build t vparts).run P w = .ok x w := by
  unfold buildX at h
  split at h
  · next fs hu =>
    split at h
    case h_2 => cases h
    next hfa =>
    have hall : ∀ f ∈ fs, ∃ k, szT P f.type = some k := fun f hf => Option.isSome_iff_exists.1 (Array.all_eq_true_iff_forall_mem.1 hfa f hf)
    simp only [Option.bind_eq_some_iff, Option.map_eq_some_iff] at h
    obtain ⟨zl, hz, r, hr, rfl⟩ := h
    obtain ⟨z, hz1, hz2⟩ := zeroT_run (ρ := ρ) hz
    have hr' := fill_congr (q := fun i => (fs.map fun f => (f.offset, P.cellsOf f.type))[i]?) hr (fun i x hx => by
      show (fs.map fun f => (f.offset, P.cellsOf f.type))[i]? = some x
      rw [Array.getElem?_map]
      cases hf : fs[i]? with
      | none => rw [hf] at hx; cases hx
      | some f =>
        rw [hf] at hx
        simp only [Option.map_eq_some_iff] at hx
        obtain ⟨k, hk, rfl⟩ := hx
        simp [szT_cells hk])
    obtain ⟨rs, h1, h2⟩ := fill_run hr' hz1 hp
    clear hr hr'
    refine ⟨_, den_agg.2 ⟨rs, h1, rfl⟩, fun w => ?_⟩
    simp only [Instr.build, Sem.run_bind, hz2 w, Result.andThen_ok, run_underlying hu w]
    rw [Array.mapM_eq_mapM_toList]
    simp only [Sem.run_map, mapM_places w fs.toList (fun f hf => hall f (by simpa using hf)), Result.andThen_ok]
    have e : (fs.toList.map fun f => (f.offset, P.cellsOf f.type)).toArray = fs.map fun f => (f.offset, P.cellsOf f.type) := by
      apply Array.ext'
      simp
    rw [e]
    simp only [Array.toArray_toList] at h2
    rw [h2]
    rfl
  · next n elem hu =>
    simp only [Option.bind_eq_some_iff, Option.map_eq_some_iff] at h
    obtain ⟨zl, hz, k, hk, r, hr, rfl⟩ := h
    obtain ⟨z, hz1, hz2⟩ := zeroT_run (ρ := ρ) hz
    obtain ⟨rs, h1, h2⟩ := fill_run hr hz1 hp
    refine ⟨_, den_agg.2 ⟨rs, h1, rfl⟩, fun w => ?_⟩
    simp only [Instr.build, Sem.run_bind, hz2 w, Result.andThen_ok, run_underlying hu w, szT_run hk w]
    simp only [Array.toArray_toList] at h2
    rw [h2]
    rfl
  · cases h

/-- The value of cells of a type. -/
def ofCells (P : Program) (t : TypeId) (vs : List Value) : Value := match aggT P t with
  | some true => .agg vs.toArray
  | _ => vs.headD undef
theorem part_cells {t : TypeId} {k off : Nat} {b : Bool} {vs : List Value} (hk : szT P t = some k) (hb : aggT P t = some b) (hl : off + k ≤ vs.length) (h1 : b = false → k = 1) (w : World) :
    (part t vs.toArray off).run P w = .ok (ofCells P t ((vs.drop off).take k)) w := by
  unfold part ofCells
  rw [hb]
  simp only [Sem.run_bind, aggT_run hb w, Result.andThen_ok]
  cases b with
  | true =>
    simp only [if_true, Sem.run_bind, szT_run hk w, Result.andThen_ok, Sem.run_pure]
    congr 2
    apply Array.ext'
    simp
  | false =>
    obtain rfl := h1 rfl
    simp only [Bool.false_eq_true, if_false]
    rw [List.getElem?_toArray, List.getElem?_eq_getElem (by omega)]
    simp only [Sem.run_pure]
    congr 1
    cases hd : vs.drop off with
    | nil => have := congrArg List.length hd; simp at this; omega
    | cons x l =>
      have : vs[off]? = some x := by
        have := congrArg List.head? hd
        rw [List.head?_drop] at this
        exact this
      rw [List.getElem?_eq_getElem (by omega)] at this
      injection this
theorem eqX_run : ∀ {n : Nat} {t : TypeId} {xs ys : List SV} {b : Bool} {us vs : List Value}, eqX P n t xs ys = some b → denL ρ xs = some us → denL ρ ys = some vs → ∀ d, n ≤ d → ∀ w, (Op.equalIn d t (ofCells P t us) (ofCells P t vs)).run P w = .ok b w
  | 0, _, _, _, _, _, _, h, _, _, _, _, _ => by simp [eqX] at h
  | n + 1, t, xs, ys, b, us, vs, h, hx, hy, d, hd, w => by
    obtain ⟨d, rfl⟩ : ∃ e, d = e + 1 := ⟨d - 1, by omega⟩
    simp only [eqX] at h
    split at h
    · next hu =>
      split at h <;> try cases h
      simp only [denL, den, Option.some.injEq] at hx hy
      subst hx
      subst hy
      simp only [ofCells, aggT, hu, List.headD_cons]
      exact run_equalIn_bool' w d t _ _ hu
    · next k0 hu =>
      split at h <;> try cases h
      next k a k' c =>
      split at h <;> cases h
      next hk =>
      subst hk
      simp only [denL, den, Option.some.injEq] at hx hy
      subst hx
      subst hy
      simp only [ofCells, aggT, hu, List.headD_cons]
      exact run_equalIn_int w d t _ k0 _ _ hu
    · next hu =>
      split at h <;> try cases h
      simp only [denL, den, Option.some.injEq] at hx hy
      subst hx
      subst hy
      simp only [ofCells, aggT, hu, List.headD_cons]
      rw [run_equalIn_string w d t _ _ hu, beq_toListBytes]
    · next fs hu =>
      split at h
      · cases h
      · next hst =>
        have hf : P.fieldsOf t = fs := by simp [Program.fieldsOf, hu]
        simp only [ofCells, aggT, hu]
        rw [run_equalIn_struct w d t _ _ (by rw [hf]; exact hu) hst, hf]
        clear hu hf hst
        generalize fs.toList = l at h
        induction l generalizing b with
        | nil =>
          simp only [eqF, Option.some.injEq] at h
          subst h
          rfl
        | cons f l ih =>
          simp only [eqF] at h
          simp only [Op.eqFields]
          split at h
          · next hne =>
            simp only [bne_iff_ne, ne_eq] at hne
            rw [if_pos hne]
            split at h <;> try cases h
            next p q hp hq =>
            obtain ⟨k, bb, r1, r2, hk, hb, h1k, h1, h2, h3⟩ : ∃ k bb r1 r2, szT P f.type = some (k + 1) ∧ aggT P f.type = some bb ∧ (bb = false → k = 0) ∧ cut xs f.offset (k + 1) = some r1 ∧ cut ys f.offset (k + 1) = some r2 ∧ eqX P n f.type r1 r2 = some p := by
              split at hp <;> try cases hp
              next k g hk hg =>
              split at hp <;> try cases hp
              next r1 r2 he h1 h2 =>
              refine ⟨k, g, r1, r2, hk, hg, fun e => ?_, h1, h2, hp⟩
              subst e
              simp only [Bool.false_or] at he
              exact Nat.eq_of_beq_eq_true he
            obtain ⟨rfl, h4⟩ := cut_ok h1
            obtain ⟨rfl, h5⟩ := cut_ok h2
            have hxl := denL_length hx
            have hyl := denL_length hy
            have hrec := eqX_run h3 (denL_take (denL_drop hx f.offset) (k + 1)) (denL_take (denL_drop hy f.offset) (k + 1)) d (by omega) w
            simp only [List.length_take, List.length_drop] at h4 h5
            have e1 := part_cells (P := P) (off := f.offset) (vs := us) hk hb (by omega) (fun e => by rw [h1k e]) w
            have e2 := part_cells (P := P) (off := f.offset) (vs := vs) hk hb (by omega) (fun e => by rw [h1k e]) w
            simp only [Sem.run_bind, e1, e2, Result.andThen_ok, hrec, Sem.run_ite, Sem.run_pure]
            cases p with
            | true => simpa using ih _ hq
            | false => rfl
          · next hne =>
            simp only [bne_eq_false_iff_eq] at hne
            rw [if_neg (by simp [hne])]
            exact ih _ h
    · cases h
end
end Go.Proofs.Ytkndpdmopgmlcaa
end
section
/- What the executor says of operations that neither read nor write, the machine does: all of them. No condition. -/
namespace Go.Proofs.Ytkndpdmopgmlcaa

section
variable {P : Program} {ρ : Names}
theorem noGuard_run {v y : Value} (h : noGuard v = true) (op : BinOp) (t : TypeId) (ox oy : Operand) (w : World) : (eqGuard op t ox oy v y).run P w = .ok () w := by
  cases op <;> cases v <;> first | rfl | cases h
theorem eql_of {t : TypeId} {x y : Value} {r : Bool} {w : World} (hq : (Op.equal t x y).run P w = .ok r w) (h1 : binOp .eql t x y = do pure (.bool (← Op.equal t x y))) (h2 : binOp .neq t x y = do pure (.bool (!(← Op.equal t x y))))
    {op : BinOp} (ho : op = .eql ∨ op = .neq) (ox oy : Operand) (hg : (eqGuard op t ox oy x y).run P w = .ok () w) : (do eqGuard op t ox oy x y; binOp op t x y : Sem Value).run P w = .ok (.bool (if op = .eql then r else !r)) w := by
  rw [Sem.run_bind, hg]
  simp only [Result.andThen_ok]
  rcases ho with rfl | rfl
  · rw [h1, Sem.run_bind, hq]
    rfl
  · rw [h2, Sem.run_bind, hq]
    rfl
theorem nilX_run {t : TypeId} {a b : SV} {x y : Value} {r : Bool} (h : nilX (P.underlying t) a b = some r) (hx : den ρ a = some x) (hy : den ρ b = some y) (op : BinOp) (ho : op = .eql ∨ op = .neq) (ox oy : Operand) (w : World) :
    (do eqGuard op t ox oy x y; binOp op t x y : Sem Value).run P w = .ok (.bool (if op = .eql then r else !r)) w := by
  unfold nilX at h
  split at h <;> (try cases h)
  · next hu =>
    simp only [den, Option.map_eq_some_iff, Option.some.injEq] at hx hy
    obtain ⟨e, _, rfl⟩ := hx
    subst hy
    exact eql_of (by show (Op.equalIn (9999 + 1) t _ _).run P w = _; unfold Op.equalIn; rw [Sem.run_bind, run_underlying hu w]; rfl) rfl rfl ho ox oy (noGuard_run rfl op t ox oy w)
  · next hu =>
    simp only [den, Option.map_eq_some_iff, Option.some.injEq] at hx hy
    obtain ⟨e, _, rfl⟩ := hy
    subst hx
    exact eql_of (by show (Op.equalIn (9999 + 1) t _ _).run P w = _; unfold Op.equalIn; rw [Sem.run_bind, run_underlying hu w]; rfl) rfl rfl ho ox oy (noGuard_run rfl op t ox oy w)
  · next hu =>
    simp only [den, Option.map_eq_some_iff, Option.some.injEq] at hx hy
    obtain ⟨e, _, rfl⟩ := hx
    subst hy
    exact eql_of (by show (Op.equalIn (9999 + 1) t _ _).run P w = _; unfold Op.equalIn; rw [Sem.run_bind, run_underlying hu w]; rfl) rfl rfl ho ox oy (noGuard_run rfl op t ox oy w)
  · next hu =>
    simp only [den, Option.map_eq_some_iff, Option.some.injEq] at hx hy
    obtain ⟨e, _, rfl⟩ := hy
    subst hx
    exact eql_of (by show (Op.equalIn (9999 + 1) t _ _).run P w = _; unfold Op.equalIn; rw [Sem.run_bind, run_underlying hu w]; rfl) rfl rfl ho ox oy (by cases op <;> rfl)
  · next hu =>
    simp only [den, Option.some.injEq] at hx hy
    split at hx <;> cases hx
    subst hy
    exact eql_of (by show (Op.equalIn (9999 + 1) t _ _).run P w = _; unfold Op.equalIn; rw [Sem.run_bind, run_underlying hu w]; rfl) rfl rfl ho ox oy (noGuard_run rfl op t ox oy w)
  · next hu =>
    simp only [den, Option.some.injEq] at hx hy
    split at hy <;> cases hy
    subst hx
    exact eql_of (by show (Op.equalIn (9999 + 1) t _ _).run P w = _; unfold Op.equalIn; rw [Sem.run_bind, run_underlying hu w]; rfl) rfl rfl ho ox oy (noGuard_run rfl op t ox oy w)
  · next hu =>
    simp only [den, Option.map_eq_some_iff, Option.some.injEq] at hx hy
    obtain ⟨e, _, rfl⟩ := hx
    subst hy
    exact eql_of (by show (Op.equalIn (9999 + 1) t _ _).run P w = _; unfold Op.equalIn; rw [Sem.run_bind, run_underlying hu w]; rfl) rfl rfl ho ox oy (noGuard_run rfl op t ox oy w)
theorem eqlX_run {t : TypeId} {a b : SV} {x y : Value} {r : Bool} (h : eqlX P t a b = some r) (hx : den ρ a = some x) (hy : den ρ b = some y) (op : BinOp) (ho : op = .eql ∨ op = .neq) (ox oy : Operand) (w : World) :
    (do eqGuard op t ox oy x y; binOp op t x y : Sem Value).run P w = .ok (.bool (if op = .eql then r else !r)) w := by
  unfold eqlX at h
  split at h
  · next r' hn =>
    injection h with h
    subst h
    exact nilX_run hn hx hy op ho ox oy w
  · split at h
    · next hc =>
      simp only [Bool.and_eq_true, Bool.not_eq_true'] at hc
      obtain ⟨⟨⟨ha, hb⟩, hg⟩, hagg⟩ := hc
      have ex := aggV ha hx
      have ey := aggV hb hy
      have hagg : aggT P t = some true := by
        split at hagg
        · assumption
        · cases hagg
      have hr := eqX_run h (den_cells hx) (den_cells hy) 10000 (by omega) w
      simp only [ofCells, hagg, Array.toArray_toList] at hr
      rw [ex, ey, Sem.run_bind, run_eqGuard_agg w op t ox oy _ _ hg]
      simp only [Result.andThen_ok]
      rcases ho with rfl | rfl
      · rw [run_eql_struct, hr]
        simp
      · rw [run_neq_struct, hr]
        simp
    · cases h
theorem binX_run {op : BinOp} {t : TypeId} {a b s : SV} {x y : Value} (h : binX P op t a b = some s) (hx : den ρ a = some x) (hy : den ρ b = some y) (ox oy : Operand) :
    ∃ z, den ρ s = some z ∧ ∀ w, (do eqGuard op t ox oy x y; binOp op t x y : Sem Value).run P w = .ok z w := by
  have heq : eqNe op (eqlX P t a b) = some s → ∃ z, den ρ s = some z ∧ ∀ w, (do eqGuard op t ox oy x y; binOp op t x y : Sem Value).run P w = .ok z w := by
    intro h1
    cases op <;> simp only [eqNe, Option.map_eq_some_iff, reduceCtorEq] at h1
    · obtain ⟨r, hr, rfl⟩ := h1
      exact ⟨_, rfl, fun w => by rw [eqlX_run hr hx hy .eql (.inl rfl) ox oy w]; rfl⟩
    · obtain ⟨r, hr, rfl⟩ := h1
      exact ⟨_, rfl, fun w => by rw [eqlX_run hr hx hy .neq (.inr rfl) ox oy w]; rfl⟩
  unfold binX at h
  split at h
  · next x' y' =>
    split at h
    · next hg =>
      simp only [Option.map_eq_some_iff] at h
      obtain ⟨z, hz, rfl⟩ := h
      simp only [den, Option.some.injEq] at hx hy
      subst hx
      subst hy
      exact ⟨z, rfl, fun w => by rw [Sem.run_bind, noGuard_run hg]; exact pureRun_run hz w⟩
    · exact heq h
  · exact heq h

theorem methodX_run {t : TypeId} {name : String} {g : FuncId} (h : methodX P t name = some g) (v : Value) (n : Nat) (w : World) : (method (n + 1) t v name).run P w = .ok (g, v) w := by
  unfold methodX at h
  generalize hu : P.underlying t = du at h
  split at h
  · next e =>
    cases hi : P.info? t with
    | none => rw [hi] at h; cases h
    | some i =>
      rw [hi] at h
      simp only at h
      cases hm : i.methods.find? (·.name == name) with
      | none => rw [hm] at h; cases h
      | some m =>
        rw [hm] at h
        simp only at h
        split at h
        · next f hp hf =>
          injection h with h
          subst h
          have hpath : m.path.toList = [] := by
            have : m.path = #[] := by simpa using hp
            rw [this]
          simp only [method, Sem.run_bind, run_typeInfo w hi, Result.andThen_ok, hm, hpath, follow, Sem.run_pure, hf, receiverAt, run_underlying hu w, Place.get]
        · cases h
  · cases h

theorem nilAhead_run {t : TypeId} {name : String} {g : FuncId} (h : methodX P t name = some g) (v : Value) (n : Nat) (w : World) : (nilAhead (n + 1) t v name).run P w = .ok (some false) w := by
  unfold methodX at h
  generalize hu : P.underlying t = du at h
  split at h
  · next e =>
    cases hi : P.info? t with
    | none => rw [hi] at h; cases h
    | some i =>
      rw [hi] at h
      simp only at h
      cases hm : i.methods.find? (·.name == name) with
      | none => rw [hm] at h; cases h
      | some m =>
        rw [hm] at h
        simp only at h
        split at h
        · next f hp hf =>
          injection h with h
          subst h
          have hpath : m.path.toList = [] := by
            have : m.path = #[] := by simpa using hp
            rw [this]
          simp only [nilAhead, Sem.run_bind, run_typeInfo w hi, Result.andThen_ok, hm, hpath, followBlind, Sem.run_pure, hf]
        · cases h
  · cases h

theorem plain_run {o : Oper} {ev : Operand → Option SV} {a : Act} {s : SV} (h : plainX P ev o.op = some s) (hev : Ev ρ ev a) : ∃ x, den ρ s = some x ∧ ∀ w, (execOp a.eval o).run P w = .ok (.value x) w := by
  obtain ⟨dst, op, ty, pos, aft, gu⟩ := o
  have vrun : ∀ {m : Sem Value} {x : Value}, (∀ w, m.run P w = .ok x w) → ∀ w, (do pure (.value (← m)) : Sem Next).run P w = .ok (.value x) w := fun hm w => by
    rw [Sem.run_bind, hm w]
    rfl
  cases op <;> simp only [plainX, reduceCtorEq, Option.bind_eq_some_iff, Option.map_eq_some_iff] at h
  case move x => exact ⟨_, hev _ _ h, fun w => rfl⟩
  case assign x => exact ⟨_, hev _ _ h, fun w => rfl⟩
  case build t parts =>
    obtain ⟨ps, hps, h⟩ := h
    have h2 := mapM_two (g := fun (p : Nat × Operand) => (p.1, a.eval p.2)) (R := fun (p : Nat × SV) (q : Nat × Value) => p.1 = q.1 ∧ den ρ p.2 = some q.2) (fun p b hb => by
      simp only [Option.map_eq_some_iff] at hb
      obtain ⟨s, hs, rfl⟩ := hb
      exact ⟨rfl, hev _ _ hs⟩) hps
    obtain ⟨x, h3, h4⟩ := buildX_run (vparts := parts.map fun (i, x) => (i, a.eval x)) h (by simpa using h2)
    exact ⟨x, h3, vrun h4⟩
  case nilCheck x =>
    obtain ⟨y, hy, h⟩ := h
    have hx := hev _ _ hy
    split at h <;> simp only [Option.some.injEq, reduceCtorEq, Option.map_eq_some_iff] at h <;> (first | subst h | (obtain ⟨g, hg, h⟩ := h; subst h))
    · refine ⟨_, hx, fun w => ?_⟩
      simp only [den, Option.map_eq_some_iff] at hx
      obtain ⟨e, _, hx⟩ := hx
      simp only [execOp, ← hx]
      rfl
    · refine ⟨_, hx, fun w => ?_⟩
      simp only [den] at hx
      split at hx <;> try cases hx
      split at hx <;> simp only [Option.some.injEq, reduceCtorEq] at hx
      simp only [execOp, ← hx]
      rfl
    · refine ⟨_, hx, fun w => ?_⟩
      simp only [den, Option.map_eq_some_iff] at hx
      obtain ⟨e, _, hx⟩ := hx
      simp only [execOp, ← hx]
      rfl
    · refine ⟨_, hx, fun w => ?_⟩
      simp only [den] at hx
      split at hx <;> simp only [Option.some.injEq, reduceCtorEq] at hx
      simp only [execOp, ← hx]
      rfl
    · refine ⟨_, hx, fun w => ?_⟩
      next name t y a b =>
      simp only [den] at hx
      split at hx <;> simp only [Option.some.injEq, reduceCtorEq] at hx
      next va vb hva hvb =>
      obtain ⟨u, us, h1, h2, rfl⟩ := denL_cons.1 hva
      simp only [den, Option.map_eq_some_iff] at h1
      obtain ⟨v, hv, rfl⟩ := h1
      have hna := nilAhead_run hg v (P.types.size + 99) w
      simp only [execOp, ← hx]
      simp only [List.getElem?_toArray, List.getElem?_cons_zero, Sem.run_bind, run_program, Result.andThen_ok]
      rw [show P.types.size + Made.depth = (P.types.size + 99) + 1 from rfl, hna]
      rfl
  case binOp op t x y ty2 =>
    obtain ⟨s1, h1, s2, h2, h⟩ := h
    split at h
    · next hnn =>
      unfold nilNil at hnn
      split at hnn
      · next hu =>
        have e1 := hev _ _ h1
        have e2 := hev _ _ h2
        simp only [den, Option.some.injEq] at e1 e2
        have heq : ∀ w, (Op.equal t .nilIface .nilIface).run P w = .ok true w := fun w => by show (Op.equalIn (9999 + 1) t _ _).run P w = _; unfold Op.equalIn; rw [Sem.run_bind, run_underlying hu w]; rfl
        cases op <;> simp only [eqNe, Option.map_some, Option.some.injEq, reduceCtorEq] at h
        · subst h
          refine ⟨_, rfl, vrun fun w => ?_⟩
          rw [← e1, ← e2]
          exact eql_of (heq w) rfl rfl (.inl rfl) _ _ (by simp [eqGuard])
        · subst h
          refine ⟨_, rfl, vrun fun w => ?_⟩
          rw [← e1, ← e2]
          exact eql_of (heq w) rfl rfl (.inr rfl) _ _ (by simp [eqGuard])
      · cases hnn
    obtain ⟨z, h3, h4⟩ := binX_run h (hev _ _ h1) (hev _ _ h2) x y
    exact ⟨z, h3, vrun h4⟩
  case unOp op t x =>
    obtain ⟨y, hy, h⟩ := h
    have hx := hev _ _ hy
    split at h <;> simp only [Option.map_eq_some_iff, reduceCtorEq] at h
    obtain ⟨z, hz, rfl⟩ := h
    simp only [den, Option.some.injEq] at hx
    rw [hx] at hz
    exact ⟨z, rfl, vrun (pureRun_run hz)⟩
  case convert sr ds x =>
    obtain ⟨y, hy, h⟩ := h
    have hx := hev _ _ hy
    split at h <;> simp only [Option.map_eq_some_iff, reduceCtorEq] at h
    obtain ⟨z, hz, rfl⟩ := h
    simp only [den, Option.some.injEq] at hx
    rw [hx] at hz
    exact ⟨z, rfl, vrun (pureRun_run hz)⟩
  case index t x i =>
    obtain ⟨y, hy, z, hz, h⟩ := h
    have hx := hev _ _ hy
    have hi := hev _ _ hz
    split at h <;> simp only [Option.map_eq_some_iff, reduceCtorEq] at h
    obtain ⟨r, hr, rfl⟩ := h
    simp only [den, Option.some.injEq] at hx hi
    rw [hx, hi] at hr
    exact ⟨r, rfl, vrun (pureRun_run hr)⟩
  case makeInterface t x =>
    split at h <;> simp only [Option.map_eq_some_iff, reduceCtorEq] at h
    next d hn hu =>
    obtain ⟨y, hy, rfl⟩ := h
    refine ⟨.iface t (a.eval x), by simp [den, hev _ _ hy], vrun fun w => ?_⟩
    simp only [Instr.makeInterface, Sem.run_bind, run_underlying hu w, Result.andThen_ok]
    cases d <;> first | rfl | (exact (hn _ rfl).elim)
  case makeFunc fn f c =>
    obtain ⟨l1, h1, l2, h2, rfl⟩ := h
    refine ⟨.func fn (f.map a.eval) (c.map a.eval), ?_, vrun fun w => rfl⟩
    simp only [den, ev_list hev h1, ev_list hev h2]
    congr 2 <;> (apply Array.ext'; simp)
  case fieldAddr t x f =>
    obtain ⟨y, hy, h⟩ := h
    obtain ⟨z, h3, h4⟩ := fieldAddrX_run h (hev _ _ hy)
    exact ⟨z, h3, vrun h4⟩
  case field t x f =>
    obtain ⟨y, hy, h⟩ := h
    obtain ⟨z, h3, h4⟩ := fieldX_run h (hev _ _ hy)
    exact ⟨z, h3, vrun h4⟩
  case extract x i =>
    obtain ⟨y, hy, h⟩ := h
    have hx := hev _ _ hy
    split at h
    · next l =>
      simp only [den, Option.map_eq_some_iff] at hx
      obtain ⟨vs, hv, hx⟩ := hx
      obtain ⟨z, h1, h2⟩ := denL_get hv h
      refine ⟨z, h1, vrun fun w => ?_⟩
      rw [← hx]
      simp only [Instr.extract, List.getElem?_toArray, h2]
      rfl
    · cases h
end
end Go.Proofs.Ytkndpdmopgmlcaa
end
section
/- What the executor says of operations that read and write, the machine does. No condition. -/
namespace Go.Proofs.Ytkndpdmopgmlcaa

section
variable {R : Type} {A : RepAt R} {P : Program} {B : Nat} {F : Nat → Prop} {st st1 st' : St R} {ρ ρ' : Names} {own own' : Nat → List Nat} {w w' : World}

theorem newN_quiet (q : Quiet st st1) {n : Nat} : newN st1 st' n ↔ newN st st' n := by unfold newN; rw [q.nx]
theorem Sit.of_quiet (s : Sit A P B F st st' ρ own w) (q : Quiet st st1) : Sit A P B F st1 st' ρ own w :=
  ⟨s.log, q.fn.wf s.wf, fun n hn => s.fresh n ((newN_quiet q).1 hn), by rw [q.hp]; exact s.li, s.ask, s.base⟩
theorem Tr.of_quiet (q : Quiet st st1) (t : Tr A P B F st1 st' ρ own w ρ' own' w') : Tr A P B F st st' ρ own w ρ' own' w' where
  le := t.le
  out n hn := t.out n (fun h => hn ((newN_quiet q).1 h))
  same n hn hw := t.same n (fun h => hn ((newN_quiet q).1 h)) hw
  pool _ hn _ hb := (t.pool _ (hn.imp_left (newN_quiet q).2) _ hb).imp_right fun ⟨m, h1, h2, h3⟩ => ⟨m, h1, fun h => h2 ((newN_quiet q).2 h), h3⟩
  li := t.li.sub fun _ hn => hn.imp_right (newN_quiet q).2
  mod := t.mod.mono fun _ _ ⟨m, h1, h2, h3⟩ => ⟨m, h1, fun h => h2 ((newN_quiet q).2 h), h3⟩

theorem oneC_of {s : SV} {x : Value} (h : s.oneC = true) (hx : den ρ s = some x) : x.oneCell' = true := by
  cases s with
  | v y =>
    simp only [den, Option.some.injEq] at hx
    subst hx
    cases y <;> first | rfl | cases h
  | agg l => cases h
  | tup l => cases h
  | tptr n i j =>
    simp only [den] at hx
    split at hx <;> try cases hx
    split at hx <;> cases hx
    rfl
  | clo fn f c =>
    simp only [den] at hx
    split at hx <;> cases hx
    rfl
  | _ =>
    simp only [den, Option.map_eq_some_iff] at hx
    obtain ⟨e, _, rfl⟩ := hx
    rfl
theorem oneC_all : ∀ {l : List SV} {vs : List Value}, l.all SV.oneC = true → denL ρ l = some vs → ∀ v ∈ vs, v.oneCell' = true
  | [], vs, _, h => by
    simp only [denL, Option.some.injEq] at h
    subst h
    exact fun v hv => by cases hv
  | s :: l, vs, h1, h => by
    obtain ⟨a, b, h2, h3, rfl⟩ := denL_cons.1 h
    simp only [List.all_cons, Bool.and_eq_true] at h1
    intro v hv
    rcases List.mem_cons.1 hv with rfl | hv
    · exact oneC_of h1.1 h2
    · exact oneC_all h1.2 h3 v hv

theorem load_part {t : TypeId} {l : List SV} {off b o : Nat} {s : SV} {vs : List Value} (h : partX P t l off = some s) (hl : denL ρ l = some vs) (hc : ∀ j v, vs[off + j]? = some v → w.cell? ⟨b, o + j, none⟩ = some v) :
    ∃ y, den ρ s = some y ∧ (Instr.loadAt t (.pointer (some ⟨b, o, none⟩))).run P w = .ok y w := by
  unfold partX at h
  cases ha : aggT P t with
  | none => rw [ha] at h; cases h
  | some g =>
    rw [ha] at h
    cases g with
    | true =>
      simp only [Option.bind_eq_some_iff, Option.map_eq_some_iff] at h
      obtain ⟨k, hk, r, hr, rfl⟩ := h
      obtain ⟨rfl, hr⟩ := cut_ok hr
      have hd := denL_take (denL_drop hl off) k
      have hlen := denL_length hd
      refine ⟨_, den_agg.2 ⟨_, hd, rfl⟩, ?_⟩
      have hlc := run_loadCells_list (P := P) w ⟨b, o, none⟩ ((vs.drop off).take k) (fun j v hv => by
        rw [add_at]
        refine hc j v ?_
        rw [List.getElem?_take] at hv
        split at hv
        · rw [List.getElem?_drop] at hv; exact hv
        · cases hv)
      rw [hlen, hr] at hlc
      simp only [Instr.loadAt, Instr.sureAddr, loadVar, Sem.run_bind, Sem.run_pure, Result.andThen_ok, aggT_run ha w, if_true, szT_run hk w, hlc]
    | false =>
      simp only at h
      obtain ⟨x, hx, hg⟩ := denL_get hl h
      refine ⟨x, hx, ?_⟩
      have := hc 0 x hg
      rw [Nat.add_zero] at this
      simp only [Instr.loadAt, Instr.sureAddr, loadVar, Sem.run_bind, Sem.run_pure, Result.andThen_ok, aggT_run ha w, Bool.false_eq_true, if_false, run_load, this]

theorem loadX_run {t : TypeId} {x s : SV} {v : Value} (h : loadX P t x st = .ok s st') (hli : LI A P B ρ own st.hp F w) (hF : ∀ n ∈ st'.fr, F n) (hx : den ρ x = some v) :
    ∃ y, den ρ s = some y ∧ (Instr.loadAt t v).run P w = .ok y w := by
  unfold loadX at h
  split at h
  · next n off =>
    obtain ⟨c, st1, h1, h2⟩ := bind_ok.1 h
    obtain ⟨hc, rfl⟩ := getC_ok.1 h1
    split at h2
    · next l t0 =>
      obtain ⟨hp, rfl⟩ := opt_ok.1 h2
      obtain ⟨e, he, _, cs, vs, h3, h4, h5, _⟩ := hli.at_ n _ (hF n (mem_ins.2 (.inl rfl))) hc
      simp only [den, he, Option.map_some, Option.some.injEq] at hx
      subst hx
      exact load_part hp h4 fun j u hu => by
        rw [cell_of_row w e.b _ cs t0 (0, 0) h3, Nat.add_assoc, h5 _ (lt_of_some hu)]
        exact hu
    · exact (fail_ok.1 h2).elim
  · next n i j =>
    obtain ⟨c, st1, h1, h2⟩ := bind_ok.1 h
    obtain ⟨hc, rfl⟩ := getC_ok.1 h1
    split at h2
    · next f len t0 =>
      obtain ⟨hp, rfl⟩ := opt_ok.1 h2
      obtain ⟨e, he, _, h3, h4, h5, h6⟩ := hli.at_ n _ (hF n (mem_ins.2 (.inl rfl))) hc
      simp only [den, he] at hx
      split at hx
      · next hlt =>
        simp only [Option.some.injEq] at hx
        subst hx
        obtain ⟨vs, h7, h8, h9⟩ := h6 i (by omega)
        exact load_part hp h7 fun m u hu => by
          have hm := lt_of_some hu
          rw [Nat.add_assoc, h9 (j + m) (by omega)]
          exact hu
      · cases hx
    · exact (fail_ok.1 h2).elim
  · exact (fail_ok.1 h).elim
theorem loadX_quiet {t : TypeId} {x s : SV} (h : loadX P t x st = .ok s st') : Quiet st st' := by
  unfold loadX at h
  split at h
  · obtain ⟨c, st1, h1, h2⟩ := bind_ok.1 h
    obtain ⟨hc, rfl⟩ := getC_ok.1 h1
    split at h2
    · obtain ⟨_, rfl⟩ := opt_ok.1 h2
      exact Quiet.get
    · exact (fail_ok.1 h2).elim
  · obtain ⟨c, st1, h1, h2⟩ := bind_ok.1 h
    obtain ⟨hc, rfl⟩ := getC_ok.1 h1
    split at h2
    · obtain ⟨_, rfl⟩ := opt_ok.1 h2
      exact Quiet.get
    · exact (fail_ok.1 h2).elim
  · exact (fail_ok.1 h).elim

theorem splice_get {α : Type} {l m : List α} {off : Nat} (h : off + m.length ≤ l.length) (i : Nat) : (l.take off ++ (m ++ l.drop (off + m.length)))[i]? = if i < off then l[i]? else if i < off + m.length then m[i - off]? else l[i]? := by
  rw [List.getElem?_append]
  simp only [List.length_take]
  rw [Nat.min_eq_left (by omega)]
  by_cases h1 : i < off
  · simp [h1]
  · rw [if_neg h1, if_neg h1, List.getElem?_append]
    by_cases h2 : i < off + m.length
    · rw [if_pos (by omega), if_pos h2]
    · rw [if_neg (by omega), if_neg h2, List.getElem?_drop]
      congr 1
      omega
theorem splice_length {α : Type} {l m : List α} {off : Nat} (h : off + m.length ≤ l.length) : (l.take off ++ (m ++ l.drop (off + m.length))).length = l.length := by
  simp only [List.length_append, List.length_take, List.length_drop]
  omega
theorem denL_splice {l m : List SV} {vs us : List Value} (hl : denL ρ l = some vs) (hm : denL ρ m = some us) (off : Nat) : denL ρ (splice l off m) = some (vs.take off ++ (us ++ vs.drop (off + us.length))) := by
  unfold splice
  refine denL_append.2 ⟨_, _, denL_take hl off, denL_append.2 ⟨_, _, hm, ?_, rfl⟩, rfl⟩
  rw [denL_length hm]
  exact denL_drop hl _

/-- Cells of a known row are written. -/
theorem row_write {t : TypeId} {l m : List SV} {e : Spot} {own0 : List Nat} {off : Nat} (h : CAt A P ρ B e own0 (.row l t) w) {us : List Value} (hm : denL ρ m = some us) (hle : off + m.length ≤ l.length) (h1 : m.all SV.oneC = true) :
    ∃ w', (storeCells ⟨e.b, e.off + off, none⟩ us).run P w = .ok () w' ∧ ModP (fun b => b ∈ own0) w w' ∧ CAt A P ρ B e own0 (.row (splice l off m) t) w' := by
  obtain ⟨ho, cs, vs, h2, h3, h4, h5, h6⟩ := h
  have hlv := denL_length h3
  have hlu := denL_length hm
  have hst := run_storeCells_at (P := P) e.b (e.off + off) t us 0 cs w h2 (by simp only [Nat.add_zero]; omega) (oneC_all h1 hm)
  simp only [Nat.add_zero] at hst
  refine ⟨_, hst, ⟨rfl, rfl, rfl, by simp, fun k hk hn => ?_⟩, ho, _, _, setRow_heap w e.b cs _ t (0, 0) h2, denL_splice h3 hm off, ?_, ?_, ?_⟩
  · exact setRow_other w e.b k _ (fun hke => hn (by rw [ho, hke]; simp))
  · intro i hi
    rw [splice_length (by omega)] at hi
    rw [splice_get (by omega), List.getElem?_toArray]
    rw [List.append_assoc, splice_get (by simp; omega)]
    by_cases g1 : i < off
    · rw [if_pos g1, if_pos (by omega), Array.getElem?_toList]
      exact h4 i hi
    · rw [if_neg g1, if_neg (by omega)]
      by_cases g2 : i < off + us.length
      · rw [if_pos g2, if_pos (by omega)]
        congr 1
        omega
      · rw [if_neg g2, if_neg (by omega), Array.getElem?_toList]
        exact h4 i hi
  · rw [splice_length (by omega)]
    exact h5
  · rw [List.size_toArray, List.append_assoc, splice_length (by simp; omega)]
    simpa using h6
end
end Go.Proofs.Ytkndpdmopgmlcaa
end
section
/- What the executor says of operations that read and write, the machine does: one by one. No condition. -/
namespace Go.Proofs.Ytkndpdmopgmlcaa

section
variable {R : Type} {A : RepAt R} {P : Program} {B : Nat} {F : Nat → Prop} {st st1 st' : St R} {ρ ρ' : Names} {own own' : Nat → List Nat} {w w' : World}

theorem quiet_new {st st1 : St R} (q : Quiet st st1) (c : Chunk R) : Fn st (st1.new c) := q.fn.trans (Fn.new st1 c)
theorem hget_quiet {st st1 : St R} (q : Quiet st st1) {n : Nat} {c : Chunk R} (h : hget n st.hp = some c) : hget n st1.hp = some c := by rw [q.hp]; exact h

theorem alloc_mod (w : World) (o : Obj) : ModP (fun _ => False) w (w.alloc o) := ⟨rfl, rfl, rfl, by simp, fun k hk _ => RowKit.Below.heap_alloc w o k hk⟩
/-- A new row. -/
theorem Tr.newRow {l : List SV} {t : TypeId} (s : Sit A P B F st (st.new (.row l t)) ρ own w) {w1 w' : World} (hw : ModP (fun _ => False) w w1) (hz : w1.heap.size = w.heap.size) {cs : Array Value} (h : w' = w1.alloc (.cells cs t)) {vs : List Value}
    (hd : denL ρ l = some vs) (hcs : ∀ i, i < vs.length → cs[i]? = vs[i]?) (cap : Nat) (h1 : vs.length ≤ cap * P.cellsOf t) (h2 : cap * P.cellsOf t ≤ cs.size) :
    ∃ ρ' own', Tr A P B F st (st.new (.row l t)) ρ own w ρ' own' w' ∧ ρ' st.nx = some ⟨w.heap.size, cap, 0, 0, 0, none⟩ := by
  subst h
  refine ⟨_, _, Tr.new s ⟨w.heap.size, cap, 0, 0, 0, none⟩ [w.heap.size] (hw.trans (alloc_mod w1 _) (fun _ _ h => h)) ⟨rfl, cs, vs, ?_, denL_mono (Names.put_le (s.fresh _ (newN_new.2 rfl))) _ _ hd, fun i hi => by rw [Nat.zero_add]; exact hcs i hi, h1, by simpa using h2⟩ (fun b hb => ?_), Names.put_same⟩
  · rw [← hz]
    exact heap_alloc_new w1 _
  · rw [List.mem_singleton] at hb
    subst hb
    simp [hz]

theorem newRow_run {t : TypeId} {cs : Array Value} : (Go.newRow t cs).run P w = .ok ⟨w.heap.size, 0, none⟩ (w.alloc (.cells cs t)) := rfl
theorem zeroT_len {t : TypeId} {z : List SV} (h : zeroT P t = some z) : ∃ v, z = v.cells.toList.map .v ∧ ∀ w, (zeroValue t).run P w = .ok v w := by
  simp only [zeroT, Option.map_eq_some_iff, Option.bind_eq_some_iff] at h
  obtain ⟨z, ⟨i, hi, hz⟩, rfl⟩ := h
  exact ⟨z, rfl, fun w => by simp [zeroValue, run_typeInfo w hi, hz]⟩

theorem store_s {t : TypeId} {v x : SV} {u : Unit} (h : storeX P t v x st = .ok u st') : Fn st st' ∧ ∀ B F ρ own w a b, Sit A P B F st st' ρ own w → den ρ x = some a → den ρ v = some b →
    ∃ ρ' own' w', (Instr.storeAt t a b).run P w = .ok () w' ∧ Tr A P B F st st' ρ own w ρ' own' w' := by
  unfold storeX at h
  split at h
  · next n off =>
    obtain ⟨c, st1, h1, h2⟩ := bind_ok.1 h
    obtain ⟨hc, rfl⟩ := getC_ok.1 h1
    split at h2
    · next l t0 =>
      obtain ⟨k, _, h3, h2⟩ := bind_ok.1 h2
      obtain ⟨hk, rfl⟩ := opt_ok.1 h3
      obtain ⟨_, _, h3, h2⟩ := bind_ok.1 h2
      obtain ⟨hb, rfl⟩ := want_ok.1 h3
      obtain ⟨_, rfl⟩ := setC_ok.1 h2
      simp only [Bool.and_eq_true] at hb
      obtain ⟨⟨hb1, hb2⟩, hb3⟩ := hb
      have hb1 := Nat.eq_of_beq_eq_true hb1
      have hb2 := Nat.le_of_ble_eq_true hb2
      have q : Quiet st { st with fr := insN n st.fr } := Quiet.get
      refine ⟨q.fn.trans (Fn.set _ n _ _ hc), fun B F ρ own w a b s hx hv => ?_⟩
      have s1 := s.of_quiet q
      have hcv := den_cells hv
      have hlen := denL_length hcv
      simp only [den, Option.map_eq_some_iff] at hx
      obtain ⟨e, he, rfl⟩ := hx
      obtain ⟨e', he', hat⟩ := s1.li.at_ n _ (s1.log n (mem_ins.2 (.inl rfl))) hc
      rw [he] at he'
      injection he' with he'
      subst he'
      obtain ⟨w', hr, hm, hat'⟩ := row_write (off := off) hat hcv (by omega) hb3
      refine ⟨_, _, w', ?_, Tr.of_quiet q (Tr.set s1 hc he (own n) hm hat' (fun b hb => .inl hb))⟩
      simp only [Array.length_toList] at hlen
      simp only [Instr.storeAt, Instr.sureAddr, storeVar, Sem.run_bind, Sem.run_pure, Result.andThen_ok, szT_run hk w, Sem.run_ite]
      rw [if_neg (by omega)]
      exact hr
    · exact (fail_ok.1 h2).elim
  · exact (fail_ok.1 h).elim

theorem alloc_s {t : TypeId} {z : List SV} {k : Nat} (hz : zeroT P t = some z) (hk : szT P t = some k) (hl : z.length = k) : Fn st (st.new (.row z t)) ∧ ∀ B F ρ own w, Sit A P B F st (st.new (.row z t)) ρ own w →
    ∃ y ρ' own' w', (Instr.alloc t true (.tuple #[])).run P w = .ok y w' ∧ den ρ' (.ptr st.nx 0) = some y ∧ Tr A P B F st (st.new (.row z t)) ρ own w ρ' own' w' := by
  refine ⟨Fn.new _ _, fun B F ρ own w s => ?_⟩
  obtain ⟨v, rfl, hv⟩ := zeroT_len hz
  simp only [List.length_map, Array.length_toList] at hl
  obtain ⟨ρ', own', ht, he⟩ := Tr.newRow (w' := w.alloc (.cells v.cells t)) s (ModP.refl _ _) rfl rfl (denL_vs (ρ := ρ) _) (fun i _ => by simp) 1 (by rw [szT_cells hk]; simp; omega) (by rw [szT_cells hk]; omega)
  refine ⟨_, ρ', own', _, ?_, by simp [den, he]; rfl, ht⟩
  simp only [Instr.alloc, Sem.run_bind, hv w, Result.andThen_ok, newVar, newRow_run, Sem.run_pure]

theorem box_s {t : TypeId} {v : SV} {k : Nat} (hk : szT P t = some k) (hl : v.cells.length = k) : Fn st (st.new (.row v.cells t)) ∧ ∀ B F ρ own w b, Sit A P B F st (st.new (.row v.cells t)) ρ own w → den ρ v = some b →
    ∃ y ρ' own' w', (Instr.box t b).run P w = .ok y w' ∧ den ρ' (.ptr st.nx 0) = some y ∧ Tr A P B F st (st.new (.row v.cells t)) ρ own w ρ' own' w' := by
  refine ⟨Fn.new _ _, fun B F ρ own w b s hv => ?_⟩
  have hcv := den_cells hv
  have hlen := denL_length hcv
  obtain ⟨ρ', own', ht, he⟩ := Tr.newRow (w' := w.alloc (.cells b.cells t)) s (ModP.refl _ _) rfl rfl hcv (fun i _ => by simp) 1 (by rw [szT_cells hk]; omega) (by rw [szT_cells hk]; simp at hlen; omega)
  refine ⟨_, ρ', own', _, ?_, by simp [den, he]; rfl, ht⟩
  simp only [Instr.box, newVar, Sem.run_bind, newRow_run, Result.andThen_ok, Sem.run_pure]

theorem fillX_length {place : Nat → Option (Nat × Nat)} : ∀ {parts : List (Nat × SV)} {cells r : List SV}, fillX place cells parts = some r → r.length = cells.length
  | [], _, _, h => by
    simp only [fillX, Option.some.injEq] at h
    rw [h]
  | (i, s) :: parts, cells, r, h => by
    simp only [fillX] at h
    split at h
    · cases h
    · split at h
      · next hb =>
        simp only [Bool.and_eq_true] at hb
        have := Nat.eq_of_beq_eq_true hb.1
        have := Nat.le_of_ble_eq_true hb.2
        rw [fillX_length h]
        exact splice_length (by omega)
      · cases h
theorem zerosX_run {elem : TypeId} {n : Nat} {l : List SV} (h : zerosX P elem n = some l) : ∃ z : Value, (∀ w, (zeroValue elem).run P w = .ok z w) ∧ l = ((List.range n).map fun j => z.cells[j % z.cells.size]!).map .v ∧ l.length = n := by
  unfold zerosX at h
  simp only [Option.bind_eq_some_iff] at h
  obtain ⟨i, hi, z, hz, h⟩ := h
  split at h
  · cases h
  · injection h with h
    subst h
    exact ⟨z, fun w => by simp [zeroValue, run_typeInfo w hi, hz], by simp, by simp⟩

theorem buildSlice_s {t elem : TypeId} {len : Nat} {ps : List (Nat × SV)} {l : List SV} (h : buildSliceX P t len ps = some (elem, l)) : Fn st (st.new (.row l elem)) ∧ ∀ B F ρ own w vps, Sit A P B F st (st.new (.row l elem)) ρ own w →
    Two (fun p q => p.1 = q.1 ∧ den ρ p.2 = some q.2) ps (Array.toList vps) → ∃ y ρ' own' w', (Instr.buildSlice t len vps).run P w = .ok y w' ∧ den ρ' (.sl st.nx 0 0 len) = some y ∧ Tr A P B F st (st.new (.row l elem)) ρ own w ρ' own' w' := by
  refine ⟨Fn.new _ _, fun B F ρ own w vps s hp => ?_⟩
  unfold buildSliceX at h
  split at h
  · next el hu =>
    simp only [Option.bind_eq_some_iff] at h
    obtain ⟨k, hk, h⟩ := h
    split at h
    · next hb =>
      simp only [Option.bind_eq_some_iff, Option.map_eq_some_iff] at h
      obtain ⟨z, hz, r, hr, h⟩ := h
      injection h with h1 h2
      subst h1
      subst h2
      simp only [Bool.and_eq_true, Bool.not_eq_true'] at hb
      have hle := Nat.le_of_ble_eq_true hb.1
      have hk0 : k ≠ 0 := Nat.ne_of_beq_eq_false hb.2
      obtain ⟨zv, hzv, rfl, hzl⟩ := zerosX_run hz
      obtain ⟨rs, h3, h4⟩ := fill_run hr (denL_vs _) hp
      have hlen := fillX_length hr
      have hlr := denL_length h3
      have hrl : rs.length = len * k := by rw [hlr, hlen, hzl]
      obtain ⟨ρ', own', ht, he⟩ := Tr.newRow (w' := w.alloc (.cells rs.toArray el)) s (ModP.refl _ _) rfl rfl h3 (fun i _ => by simp) len (by rw [szT_cells hk]; omega) (by rw [szT_cells hk]; simp; omega)
      refine ⟨_, ρ', own', _, ?_, by simp [den, he]; rfl, ht⟩
      have e : ((List.range (len * k)).map fun j => zv.cells[j % zv.cells.size]!).toArray = (Array.range (len * k)).map (zv.cells[· % zv.cells.size]!) := by
        apply Array.ext'
        simp
      rw [e] at h4
      simp only [Instr.buildSlice, Sem.run_bind, run_underlying hu w, Result.andThen_ok, szT_run hk w, Sem.run_ite]
      rw [if_neg (by omega)]
      by_cases h0 : len * k = 0
      · rw [if_pos h0]
        rw [h0] at h4
        simp only [Sem.run_pure, Result.andThen_ok, h0]
        have e0 : (Array.range 0).map (zv.cells[· % zv.cells.size]!) = (#[] : Array Value) := by simp
        rw [e0] at h4
        have e1 : ∀ f : Nat → Value, (Array.range 0).map f = (#[] : Array Value) := fun f => by simp
        simp only [e1, h4, Sem.run_bind, newRow_run, Result.andThen_ok, Sem.run_pure]
      · rw [if_neg h0]
        simp only [hzv w, Sem.run_pure, Result.andThen_ok, h4, Sem.run_bind, newRow_run]
    · cases h
  · cases h
end
end Go.Proofs.Ytkndpdmopgmlcaa
end
section
/- What the executor says of operations that read and write, the machine does: slices. No condition. -/
namespace Go.Proofs.Ytkndpdmopgmlcaa

section
variable {R : Type} {A : RepAt R} {P : Program} {B : Nat} {F : Nat → Prop} {st st1 st' : St R} {ρ ρ' : Names} {own own' : Nat → List Nat} {w w' : World}

theorem wrap_small (n : Int) (h0 : 0 ≤ n) (h1 : n ≤ 140737488351232) : IntKind.i64.wrap n = n := by
  unfold IntKind.wrap
  simp [IntKind.bits, IntKind.signed]
  omega
theorem makeSlice_s {t elem : TypeId} {n c : Nat} {i : TypeInfo} {z : List SV} (hu : P.underlying t = some (.slice elem)) (hi : P.info? elem = some i) (hb : (Nat.ble n c && Nat.ble (c * i.bytes) 140737488351232 && Nat.ble c 140737488351232 && !Nat.beq i.size 0) = true)
    (hz : zerosX P elem (c * i.size) = some z) : Fn st (st.new (.row z elem)) ∧ ∀ B F ρ own w k k', Sit A P B F st (st.new (.row z elem)) ρ own w →
    ∃ y ρ' own' w', (Instr.makeSlice t (.int k (n : Int)) (.int k' (c : Int))).run P w = .ok y w' ∧ den ρ' (.sl st.nx 0 0 n) = some y ∧ Tr A P B F st (st.new (.row z elem)) ρ own w ρ' own' w' := by
  refine ⟨Fn.new _ _, fun B F ρ own w k k' s => ?_⟩
  simp only [Bool.and_eq_true, Bool.not_eq_true'] at hb
  obtain ⟨⟨⟨h1, h2⟩, h3⟩, h4⟩ := hb
  have h1 := Nat.le_of_ble_eq_true h1
  have h2 := Nat.le_of_ble_eq_true h2
  have h3 := Nat.le_of_ble_eq_true h3
  have h4 := Nat.ne_of_beq_eq_false h4
  obtain ⟨zv, hzv, rfl, hzl⟩ := zerosX_run hz
  have hc : P.cellsOf elem = i.size := by simp [Program.cellsOf, hi]
  have hk : szT P elem = some i.size := by simp [szT, hi]
  obtain ⟨ρ', own', ht, he⟩ := Tr.newRow (w' := w.alloc (.cells ((List.range (c * i.size)).map fun j => zv.cells[j % zv.cells.size]!).toArray elem)) s (ModP.refl _ _) rfl rfl (denL_vs (ρ := ρ) _) (fun i _ => by simp) c (by rw [hc]; simp) (by rw [hc]; simp)
  have e : ((List.range (c * i.size)).map fun j => zv.cells[j % zv.cells.size]!).toArray = (Array.range (c * i.size)).map (zv.cells[· % zv.cells.size]!) := by
    apply Array.ext'
    simp
  have w1 : IntKind.i64.wrap (n : Int) = n := wrap_small _ (by omega) (by omega)
  have w2 : IntKind.i64.wrap (c : Int) = c := wrap_small _ (by omega) (by omega)
  refine ⟨_, ρ', own', _, ?_, by simp [den, he]; rfl, ht⟩
  have hby : (i.bytes : Int) * (c : Int) ≤ 140737488351232 := by
    have : ((c * i.bytes : Nat) : Int) ≤ 140737488351232 := by omega
    rw [Int.natCast_mul, Int.mul_comm] at this
    exact this
  have hn1 : ¬ ((c : Int) < 0) := by omega
  have hn2 : ¬ ((2 : Int) ^ 48 < (i.bytes : Int) * (c : Int)) := by omega
  have hn3 : ¬ ((n : Int) < 0) := by omega
  have hn4 : ¬ ((c : Int) < (n : Int)) := by omega
  have hroom : ¬ (c * i.bytes > roomBytes) := by unfold roomBytes; omega
  simp only [Instr.makeSlice, Sem.run_bind, run_underlying hu w, Result.andThen_ok, asInt, asIntOf, Sem.run_pure, run_typeInfo w hi, w1, w2, gt_iff_lt, hn1, hn2, hn3, hn4, decide_false, Bool.or_false, Bool.false_eq_true, if_false, Sem.run_ite, askRoom, Int.toNat_natCast, hroom,
    szT_run hk w]
  by_cases h0 : c * i.size = 0
  · rw [if_pos h0]
    rw [h0] at e ⊢
    have e0 : (Array.range 0).map (zv.cells[· % zv.cells.size]!) = (#[] : Array Value) := by simp
    have e1 : ∀ f : Nat → Value, (Array.range 0).map f = (#[] : Array Value) := fun f => by simp
    simp only [Result.andThen_ok, e1, newRow_run]
    rfl
  · rw [if_neg h0]
    simp only [hzv w, Result.andThen_ok, newRow_run, ← e]

theorem idx_s {t : TypeId} {x iv s : SV} (h : idxX P t x iv st = .ok s st') : Quiet st st' ∧ ∀ B F ρ own w a b, Sit A P B F st st' ρ own w → den ρ x = some a → den ρ iv = some b →
    ∃ y, (Instr.indexAt t a b).run P w = .ok y w ∧ den ρ s = some y := by
  unfold idxX at h
  split at h
  · next k i =>
    generalize hu : P.underlying t = du at h
    split at h
    · next elem =>
      split at h
      · next n off idx len =>
        obtain ⟨_, st1, h1, h2⟩ := bind_ok.1 h
        obtain ⟨q, hq⟩ := need_ok h1
        obtain ⟨sz, _, h3, h2⟩ := bind_ok.1 h2
        obtain ⟨hsz, rfl⟩ := opt_ok.1 h3
        obtain ⟨rfl, rfl⟩ := ret_ok.1 h2
        refine ⟨q, fun B F ρ own w a b s hx hi => ?_⟩
        have hlt := hq s.ask
        simp only [decide_eq_true_eq] at hlt
        simp only [den, Option.map_eq_some_iff, Option.some.injEq] at hx hi
        obtain ⟨e, he, rfl⟩ := hx
        subst hi
        refine ⟨.pointer (some ⟨e.b, e.off + off + i.toNat * sz, none⟩), ?_, by simp [den, he, Nat.add_assoc]⟩
        simp only [Instr.indexAt, asIntOf, Sem.run_bind, Sem.run_pure, Result.andThen_ok, run_underlying hu w, hlt, and_self, if_true, szT_run hsz w, add_at]
      · next n len =>
        obtain ⟨c, st1, h1, h2⟩ := bind_ok.1 h
        obtain ⟨hc, rfl⟩ := getC_ok.1 h1
        split at h2
        · next f len' t' =>
          obtain ⟨_, _, h3, h4⟩ := bind_ok.1 h2
          obtain ⟨ht, rfl⟩ := want_ok.1 h3
          simp only [Bool.and_eq_true] at ht
          obtain ⟨ht, hsz⟩ := ht
          obtain ⟨_, st2, h5, h6⟩ := bind_ok.1 h4
          obtain ⟨q, hq⟩ := need_ok h5
          obtain ⟨rfl, rfl⟩ := ret_ok.1 h6
          have ht := Nat.eq_of_beq_eq_true ht
          clear h h1 h2 h3 h4 h5 h6
          subst ht
          refine ⟨Quiet.get.trans q, fun B F ρ own w a b s hx hi => ?_⟩
          have hlt := hq s.ask
          simp only [decide_eq_true_eq] at hlt
          obtain ⟨g1, g2, g3⟩ := hlt
          subst g3
          obtain ⟨e, he, _, h4, h5, h6, _⟩ := s.li.at_ n _ (s.log n (q.fr n (mem_ins.2 (.inl rfl)))) hc
          simp only [den, he, Option.map_some, Option.some.injEq] at hx hi
          subst hx
          subst hi
          obtain ⟨h7, _, _⟩ := h6 (by omega)
          obtain ⟨ii, hii⟩ : ∃ ii, P.info? t' = some ii := by
            cases hh : P.info? t' with
            | none => rw [hh] at hsz; cases hsz
            | some ii => exact ⟨ii, rfl⟩
          refine ⟨.pointer (some ⟨e.b, e.off + i.toNat * e.sz, none⟩), ?_, ?_⟩
          · simp only [Instr.indexAt, asIntOf, Sem.run_bind, Sem.run_pure, Result.andThen_ok, run_underlying hu w, g1, g2, and_self, if_true, run_sizeOf w hii, h7, add_at, h5]
          · have : i.toNat < e.len := by omega
            simp [den, he, this]
        · exact (fail_ok.1 h2).elim
      · exact (fail_ok.1 h).elim
    · next len elem =>
      split at h
      · next n off =>
        obtain ⟨_, st1, h1, h2⟩ := bind_ok.1 h
        obtain ⟨q, hq⟩ := need_ok h1
        obtain ⟨sz, _, h3, h2⟩ := bind_ok.1 h2
        obtain ⟨hsz, rfl⟩ := opt_ok.1 h3
        obtain ⟨rfl, rfl⟩ := ret_ok.1 h2
        refine ⟨q, fun B F ρ own w a b s hx hi => ?_⟩
        have hlt := hq s.ask
        simp only [decide_eq_true_eq] at hlt
        simp only [den, Option.map_eq_some_iff, Option.some.injEq] at hx hi
        obtain ⟨e, he, rfl⟩ := hx
        subst hi
        refine ⟨.pointer (some ⟨e.b, e.off + off + i.toNat * sz, none⟩), ?_, by simp [den, he, Nat.add_assoc]⟩
        simp only [Instr.indexAt, asIntOf, Sem.run_bind, Sem.run_pure, Result.andThen_ok, run_underlying hu w, Instr.sureAddr, hlt, and_self, if_true, szT_run hsz w, add_at]
      · exact (fail_ok.1 h).elim
    · exact (fail_ok.1 h).elim
  · exact (fail_ok.1 h).elim
end
end Go.Proofs.Ytkndpdmopgmlcaa
end
section
/- What the executor says of operations that read and write, the machine does: slicing, append, copy. No condition. -/
namespace Go.Proofs.Ytkndpdmopgmlcaa

section
variable {R : Type} {A : RepAt R} {P : Program} {B : Nat} {F : Nat → Prop} {st st1 st' : St R} {ρ ρ' : Names} {own own' : Nat → List Nat} {w w' : World}

theorem natOf_ok {s : SV} {n : Nat} {x : Value} (h : natOf s = some n) (hx : den ρ s = some x) : ∃ k, x = .int k (n : Int) := by
  unfold natOf at h
  split at h
  · next k m =>
    injection h with h
    subst h
    simp only [den, Option.some.injEq] at hx
    exact ⟨k, hx.symm⟩
  · cases h
theorem bound_run {k : IntKind} {n y : Nat} (h : n ≤ y) (c : BoundsCode) (w : World) : (Instr.sliceBound (.int k (n : Int)) y c).run P w = .ok n w := by
  simp only [Instr.sliceBound, asIntOf, Sem.run_bind, Sem.run_pure, Result.andThen_ok]
  rw [if_pos ⟨by omega, by omega⟩]
  simp
theorem slice_s {t : TypeId} {x s : SV} {lo hi : Option SV} (h : sliceX P t x lo hi st = .ok s st') : Fn st st' ∧ ∀ B F ρ own w a lo' hi', Sit A P B F st st' ρ own w → den ρ x = some a → (∀ l, lo = some l → ∃ v, lo' = some v ∧ den ρ l = some v) → (lo = none → lo' = none) →
    (∀ l, hi = some l → ∃ v, hi' = some v ∧ den ρ l = some v) → (hi = none → hi' = none) → ∃ y ρ' own' w', (Instr.sliceAt t a lo' hi' none).run P w = .ok y w' ∧ den ρ' s = some y ∧ Tr A P B F st st' ρ own w ρ' own' w' := by
  unfold sliceX at h
  generalize hu : P.underlying t = du at h
  split at h
  · next elem =>
    split at h
    · next n off idx len =>
      obtain ⟨l, _, h1, h2⟩ := bind_ok.1 h
      obtain ⟨hl, rfl⟩ := opt_ok.1 h1
      obtain ⟨g, _, h3, h4⟩ := bind_ok.1 h2
      obtain ⟨hh, rfl⟩ := opt_ok.1 h3
      obtain ⟨k, _, h5, h6⟩ := bind_ok.1 h4
      obtain ⟨hk, rfl⟩ := opt_ok.1 h5
      obtain ⟨_, _, h7, h8⟩ := bind_ok.1 h6
      obtain ⟨hb, rfl⟩ := want_ok.1 h7
      obtain ⟨c, st1, h9, h10⟩ := bind_ok.1 h8
      obtain ⟨hc, rfl⟩ := getC_ok.1 h9
      simp only [Bool.and_eq_true, Bool.not_eq_true'] at hb
      obtain ⟨⟨hb1, hb2⟩, hb3⟩ := hb
      have hb1 := Nat.le_of_ble_eq_true hb1
      have hb2 := Nat.le_of_ble_eq_true hb2
      have hb3 := Nat.ne_of_beq_eq_false hb3
      split at h10
      · next cs t' =>
        obtain ⟨_, _, h11, h12⟩ := bind_ok.1 h10
        obtain ⟨hw, rfl⟩ := want_ok.1 h11
        simp only [Bool.and_eq_true] at hw
        obtain ⟨⟨hw1, hw2⟩, hw3⟩ := hw
        have hw1 := Nat.eq_of_beq_eq_true hw1
        have hw2 := Nat.le_of_ble_eq_true hw2
        have hw3 := Nat.eq_of_beq_eq_true hw3
        have q : Quiet st { st with fr := insN n st.fr } := Quiet.get
        -- the run
        have key : ∀ B F ρ own w a lo' hi', LI A P B ρ own st.hp F w → F n → den ρ (.sl n off idx len) = some a → (∀ l, lo = some l → ∃ v, lo' = some v ∧ den ρ l = some v) → (lo = none → lo' = none) →
            (∀ l, hi = some l → ∃ v, hi' = some v ∧ den ρ l = some v) → (hi = none → hi' = none) → ∃ e, ρ n = some e ∧ idx + len ≤ e.cap ∧
              (Instr.sliceAt t a lo' hi' none).run P w = .ok (.slice (if e.cap - idx = l then some ⟨e.b, e.off + off, none⟩ else some ⟨e.b, e.off + off + l * k, none⟩) (g - l) (e.cap - idx - l)) w := by
          intro B F ρ own w a lo' hi' hli hF ha hl1 hl2 hh1 hh2
          obtain ⟨e, he, _, cs', vs, h13, h14, _, h15, _⟩ := hli.at_ n _ hF hc
          have hlen := denL_length h14
          have hcap : idx + len ≤ e.cap := by
            rw [hw1, szT_cells hk] at h15
            have : (idx + len) * k ≤ e.cap * k := by omega
            exact Nat.le_of_mul_le_mul_right this (by omega)
          simp only [den, he, Option.map_some, Option.some.injEq] at ha
          subst ha
          refine ⟨e, he, hcap, ?_⟩
          have hrun : (Instr.sliceBounds true len (e.cap - idx) lo' hi' none).run P w = .ok (l, g, e.cap - idx) w := by
            cases lo with
            | none =>
              rw [hl2 rfl]
              simp only [Option.some.injEq] at hl
              subst hl
              cases hi with
              | none =>
                rw [hh2 rfl]
                simp only [Option.some.injEq] at hh
                subst hh
                rfl
              | some hs =>
                obtain ⟨v, rfl, hv⟩ := hh1 _ rfl
                obtain ⟨kk, rfl⟩ := natOf_ok hh hv
                simp only [Instr.sliceBounds, Sem.run_bind, Sem.run_pure, Result.andThen_ok, bound_run (P := P) (k := kk) (show g ≤ e.cap - idx by omega)]
            | some ls =>
              obtain ⟨v, rfl, hv⟩ := hl1 _ rfl
              obtain ⟨kk, rfl⟩ := natOf_ok hl hv
              cases hi with
              | none =>
                rw [hh2 rfl]
                simp only [Option.some.injEq] at hh
                subst hh
                simp only [Instr.sliceBounds, Sem.run_bind, Sem.run_pure, Result.andThen_ok, bound_run (P := P) (k := kk) (show l ≤ len by omega), Option.isSome_none, Bool.false_eq_true, if_false]
              | some hs =>
                obtain ⟨v, rfl, hv⟩ := hh1 _ rfl
                obtain ⟨k2, rfl⟩ := natOf_ok hh hv
                simp only [Instr.sliceBounds, Sem.run_bind, Sem.run_pure, Result.andThen_ok, bound_run (P := P) (k := k2) (show g ≤ e.cap - idx by omega), if_true, bound_run (P := P) (k := kk) (show l ≤ g by omega), Option.isSome_none, Bool.false_eq_true, if_false]
          simp only [Instr.sliceAt, Sem.run_bind, run_underlying hu w, Result.andThen_ok, Instr.slice, hrun, szT_run hk w, Sem.run_pure]
          by_cases hx : e.cap - idx = l
          · simp only [hx, if_true]
          · simp only [hx, if_false, Option.map_some, add_at]
        cases hbe : Nat.beq l g with
        | true =>
          rw [hbe] at h12
          have hlg := Nat.eq_of_beq_eq_true hbe
          subst hlg
          obtain ⟨m, st2, h13, h14⟩ := bind_ok.1 h12
          obtain ⟨rfl, rfl⟩ := newC_ok.1 h13
          obtain ⟨rfl, rfl⟩ := ret_ok.1 h14
          refine ⟨quiet_new q .emp, fun B F ρ own w a lo' hi' s ha hl1 hl2 hh1 hh2 => ?_⟩
          have s1 := s.of_quiet q
          obtain ⟨e, he, hcap, hr⟩ := key B F ρ own w a lo' hi' s.li (s.log n (mem_ins.2 (.inl rfl))) ha hl1 hl2 hh1 hh2
          have ht := Tr.new (c := .emp) s1 ⟨0, e.cap - idx - l, 0, 0, 0, if e.cap - idx = l then some ⟨e.b, e.off + off, none⟩ else some ⟨e.b, e.off + off + l * k, none⟩⟩ [] (ModP.refl _ _) rfl (fun b hb => by cases hb)
          refine ⟨_, _, _, _, hr, ?_, Tr.of_quiet q ht⟩
          simp only [den]
          rw [Names.put_same]
          simp
        | false =>
          rw [hbe] at h12
          have hlg := Nat.ne_of_beq_eq_false hbe
          obtain ⟨rfl, rfl⟩ := ret_ok.1 h12
          refine ⟨q.fn, fun B F ρ own w a lo' hi' s ha hl1 hl2 hh1 hh2 => ?_⟩
          obtain ⟨e, he, hcap, hr⟩ := key B F ρ own w a lo' hi' s.li (s.log n (mem_ins.2 (.inl rfl))) ha hl1 hl2 hh1 hh2
          refine ⟨_, _, _, _, hr, ?_, s.quiet q⟩
          rw [if_neg (by omega)]
          simp [den, he, Nat.add_assoc, Nat.sub_sub]
      · exact (fail_ok.1 h10).elim
    · exact (fail_ok.1 h).elim
  · exact (fail_ok.1 h).elim
end
end Go.Proofs.Ytkndpdmopgmlcaa
end
section
/- What the executor says of append and copy, the machine does. No condition. -/
namespace Go.Proofs.Ytkndpdmopgmlcaa

section
variable {R : Type} {A : RepAt R} {P : Program} {B : Nat} {F : Nat → Prop} {st st1 st' : St R} {ρ ρ' : Names} {own own' : Nat → List Nat} {w w' : World}

theorem src_s {k : Nat} {x : SV} {m : Nat} {cs : List SV} (h : srcX k x st = .ok (m, cs) st') : Quiet st st' ∧ ∀ B F ρ own w a, LI A P B ρ own st.hp F w → (∀ n ∈ st'.fr, F n) → den ρ x = some a →
    ∃ ad c news, a = .slice ad m c ∧ denL ρ cs = some news ∧ news.length = m * k ∧ (∀ g, ad = some g → ∀ j u, news[j]? = some u → w.cell? (g.add j) = some u) ∧ (ad = none → m = 0) := by
  unfold srcX at h
  split at h
  · next c =>
    obtain ⟨e, rfl⟩ := ret_ok.1 h
    injection e with e1 e2
    subst e1
    subst e2
    refine ⟨Quiet.refl _, fun B F ρ own w a _ _ ha => ?_⟩
    simp only [den, Option.some.injEq] at ha
    subst ha
    exact ⟨none, c, [], rfl, rfl, by simp, (fun g hg => by cases hg), fun _ => rfl⟩
  · next n =>
    obtain ⟨c, st1, h1, h2⟩ := bind_ok.1 h
    obtain ⟨hc, rfl⟩ := getC_ok.1 h1
    split at h2
    · obtain ⟨e, rfl⟩ := ret_ok.1 h2
      injection e with e1 e2
      subst e1
      subst e2
      refine ⟨Quiet.get, fun B F ρ own w a _ _ ha => ?_⟩
      simp only [den, Option.map_eq_some_iff] at ha
      obtain ⟨e, he, rfl⟩ := ha
      exact ⟨e.ad, e.cap, [], rfl, rfl, by simp, (fun g _ j u hu => by simp at hu), fun _ => rfl⟩
    · exact (fail_ok.1 h2).elim
  · next n off idx len =>
    obtain ⟨c, st1, h1, h2⟩ := bind_ok.1 h
    obtain ⟨hc, rfl⟩ := getC_ok.1 h1
    split at h2
    · next l t0 =>
      obtain ⟨r, _, h3, h4⟩ := bind_ok.1 h2
      obtain ⟨hr, rfl⟩ := opt_ok.1 h3
      obtain ⟨e, rfl⟩ := ret_ok.1 h4
      injection e with e1 e2
      subst e1
      subst e2
      obtain ⟨rfl, hlen⟩ := cut_ok hr
      refine ⟨Quiet.get, fun B F ρ own w a hli hF ha => ?_⟩
      obtain ⟨e, he, _, cs, vs, h5, h6, h7, _⟩ := hli.at_ n _ (hF n (mem_ins.2 (.inl rfl))) hc
      simp only [den, he, Option.map_some, Option.some.injEq] at ha
      subst ha
      have hd := denL_take (denL_drop h6 off) (len * k)
      refine ⟨_, _, _, rfl, hd, by rw [denL_length hd, hlen], fun g hg j u hu => ?_, fun hn => by cases hn⟩
      injection hg with hg
      subst hg
      rw [add_at, cell_of_row w e.b _ cs t0 (0, 0) h5, Nat.add_assoc]
      rw [List.getElem?_take] at hu
      split at hu
      · rw [List.getElem?_drop] at hu
        rw [h7 _ (lt_of_some hu)]
        exact hu
      · cases hu
    · exact (fail_ok.1 h2).elim
  · exact (fail_ok.1 h).elim

theorem isSliceT_ok {t : TypeId} {tx : Option TypeId} (h : isSliceT P tx = true) (ht : tx = some t) : ∃ e, P.underlying t = some (.slice e) := by
  subst ht
  unfold isSliceT at h
  simp only at h
  generalize hu : P.underlying t = du at h
  split at h
  · exact ⟨_, rfl⟩
  · cases h
theorem src_of {k m c : Nat} {tx : TypeId} {ad : Option Addr} {news : List Value} {e : TypeId} (hk : P.underlying tx = some (.slice e)) (hl : news.length = m * k) (hc : ∀ g, ad = some g → ∀ j u, news[j]? = some u → w.cell? (g.add j) = some u) (h0 : ad = none → m = 0)
    (h1 : ∀ v ∈ news, v.oneCell' = true) : Src P k tx (.slice ad m c) m news w := by
  cases ad with
  | none =>
    obtain rfl := h0 rfl
    have : news = [] := List.eq_nil_of_length_eq_zero (by omega)
    subst this
    exact Src.ofNil w hk c
  | some g => exact Src.ofSlice w hk g m c news hl (hc g rfl) h1
theorem append_room {t tx ty e : TypeId} {i : TypeInfo} (ht : P.underlying t = some (.slice e)) (hi : P.info? e = some i) (b o sLen sCap : Nat) (x : Value) (n : Nat) (news : List Value) (hs : Src P i.size tx x n news w)
    (hroom : sLen + n ≤ sCap) (hst : (storeCells ⟨b, o + sLen * i.size, none⟩ news).run P w = .ok () w') :
    (Builtin.append_ #[t, tx] ty #[.slice (some ⟨b, o, none⟩) sLen sCap, x]).run P w = .ok (.slice (some ⟨b, o, none⟩) (sLen + n) sCap) w' := by
  rcases hs.kind with ⟨e', hk⟩ | hk <;> simp [Builtin.append_, run_underlying ht, run_underlying hk, sizeOf, typeInfo, hi, hs.len, hroom, hs.cells, Addr.add_lit, hst]

/-- Cells are written behind a known row; it goes on from some element. -/
theorem row_extend {t : TypeId} {l m : List SV} {e : Spot} {own0 : List Nat} {off idx len k n : Nat} (h : CAt A P ρ B e own0 (.row l t) w) {us : List Value} (hm : denL ρ m = some us) (hk : P.cellsOf t = k) (hoff : off = idx * k) (hl : l.length = (idx + len) * k)
    (hn : us.length = n * k) (hcap : len + n ≤ e.cap - idx) (hk0 : k ≠ 0) (h1 : m.all SV.oneC = true) {ρ' : Names} (hle : ρ.le ρ') :
    ∃ w', (storeCells ⟨e.b, e.off + off + len * k, none⟩ us).run P w = .ok () w' ∧ ModP (fun b => b ∈ own0) w w' ∧ CAt A P ρ' B ⟨e.b, e.cap - idx, e.off + off, 0, 0, none⟩ own0 (.row (l.drop off ++ m) t) w' := by
  obtain ⟨ho, cs, vs, h2, h3, h4, h5, h6⟩ := h
  have hlv := denL_length h3
  rw [hk] at h5 h6
  have e1 : (idx + len) * k = idx * k + len * k := Nat.add_mul ..
  have e2 : (len + n) * k = len * k + n * k := Nat.add_mul ..
  have e3 : (len + n) * k ≤ (e.cap - idx) * k := Nat.mul_le_mul_right _ hcap
  have e4 : idx * k + (e.cap - idx) * k = e.cap * k ∨ e.cap < idx := by
    rcases Nat.lt_or_ge e.cap idx with hlt | hge
    · exact .inr hlt
    · left
      rw [← Nat.add_mul]
      congr 1
      omega
  have e5 : idx * k + (e.cap - idx) * k = e.cap * k := by
    rcases e4 with h | h
    · exact h
    · have hz : e.cap - idx = 0 := by omega
      rw [hz, Nat.zero_mul] at e3
      have : (idx + len) * k ≤ e.cap * k := by omega
      have := Nat.le_of_mul_le_mul_right this (by omega)
      omega
  have hst := run_storeCells_at (P := P) e.b (e.off + off + len * k) t us 0 cs w h2 (by simp only [Nat.add_zero]; omega) (oneC_all h1 hm)
  simp only [Nat.add_zero] at hst
  refine ⟨_, hst, ⟨rfl, rfl, rfl, by simp, fun q hq hnq => ?_⟩, ho, _, vs.drop off ++ us, setRow_heap w e.b cs _ t (0, 0) h2, ?_, ?_, ?_, ?_⟩
  · exact setRow_other w e.b q _ (fun hke => hnq (by rw [ho, hke]; simp))
  · exact denL_append.2 ⟨_, _, denL_drop (denL_mono hle _ _ h3) off, denL_mono hle _ _ hm, rfl⟩
  · intro i hi
    simp only [List.length_append, List.length_drop] at hi
    change (List.toArray _)[e.off + off + i]? = _
    rw [List.getElem?_toArray, List.append_assoc, splice_get (by simp; omega), List.getElem?_append, List.length_drop]
    by_cases g1 : i < len * k
    · rw [if_pos (by omega), if_pos (by omega), Array.getElem?_toList, List.getElem?_drop, Nat.add_assoc]
      exact h4 (off + i) (by omega)
    · rw [if_neg (by omega), if_pos (by omega), if_neg (by omega)]
      congr 1
      omega
  · rw [hk, List.length_append, List.length_drop]
    show _ ≤ (e.cap - idx) * k
    omega
  · rw [hk, List.size_toArray, List.append_assoc, splice_length (by simp; omega)]
    show e.off + off + (e.cap - idx) * k ≤ _
    simp
    omega
end
end Go.Proofs.Ytkndpdmopgmlcaa
end
