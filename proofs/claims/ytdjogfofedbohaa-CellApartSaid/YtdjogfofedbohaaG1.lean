/- The executor's memory and the machine's: what it means that one stands for the other, and that a piece of code turns the one as it turns the other. No condition. -/
import Derived.Below
import Derived.Laws.OwnMore
import Derived.Laws.AppendOwn
import Derived.Deep.AppendLies
import Derived.Deep.Draws
import Derived.Laws.Rows
import Derived.OwnWalk
import Derived.Test.YtdjogfofedbohaaProg
import Derived.Tactics
import Derived.Tactics2
import Derived.WalkKit
import Derived.Deep.RegionHeld3
import Derived.Deep.DeepCutAuto
import Derived.Deep.QuietTactic
import Derived.BigQuiet
import Derived.KernelRfl
import Derived.WideLaws
import Derived.WalkSpells
import Derived.Handy
import Derived.Laws.BitsAllLaws
import Derived.StillTailTactics
import Derived.DeepKeys5
import Derived.Maps.OwnSet
import Derived.Maps.OwnOps
import Derived.Maps.Views
import Derived.Carry
import Derived.Lib.SlMapEqual
import Derived.Maps.Ext
import Derived.Maps.RangeWalk
import Derived.Laws.IdiomRangeMap
import Derived.Deep.LoopGhost
import Derived.RangeFuncSeq
import Derived.Shelf.AbstractIn
import Derived.Sort.MapsRangeIn
import Derived.OwnWalkIn
import Derived.TacticsInMore
import Derived.RegionIn
import Derived.LoopNIn
import Derived.LoopIn
import Derived.RangeFuncGives
import Derived.Maps.AppendAt
import Derived.Shelf.SlIter.Collect
import Derived.Shelf.SlSortCmp.NoneTotal
import Derived.Laws.CopyOwn
import Derived.ArgAppend
import Derived.StillTail
import Derived.Sort.Grow
import Derived.Shelf.SlicesG.Cmp
import Derived.Wp
section
/- Plain words for memory: which blocks a call may have changed; blocks known whole; rows of structs as flat lists of cells. No condition. -/
namespace Go.Proofs.Ytdjogfofedbohaa
open Go.RowKit

theorem hide {p : Prop} (h : p) : Hid p := h

/-- w' is w, but for the blocks of S and for new ones. -/
structure Mod (S : List Nat) (w w' : World) : Prop where
  os : w'.os = w.os
  tape : w'.tape = w.tape
  output : w'.output = w.output
  size : w.heap.size ≤ w'.heap.size
  block : ∀ k, k < w.heap.size → k ∉ S → w'.heap[k]? = w.heap[k]?

section
variable {S T : List Nat} {a w w' : World}
theorem Mod.refl (S : List Nat) (w : World) : Mod S w w := ⟨rfl, rfl, rfl, Nat.le_refl _, fun _ _ _ => rfl⟩
theorem Mod.drew (h : Mod S a w) : Mod S a w.drew := ⟨h.os, h.tape, h.output, h.size, h.block⟩
theorem Mod.drewN (h : Mod S a w) (n : Nat) : Mod S a (w.drewN n) := ⟨h.os, h.tape, h.output, h.size, h.block⟩
theorem Mod.alloc (h : Mod S a w) (o : Obj) : Mod S a (w.alloc o) :=
  ⟨h.os, h.tape, h.output, Nat.le_trans h.size (by simp), fun k hk hn => (Below.heap_alloc w o k (Nat.lt_of_lt_of_le hk h.size)).trans (h.block k hk hn)⟩
theorem Mod.setCell (h : Mod S a w) {p : Addr} (hp : p.block ∈ S ∨ a.heap.size ≤ p.block) (u : Value) : Mod S a (w.setCell p u) :=
  ⟨h.os, h.tape, h.output, by simpa [World.setCell] using h.size, fun k hk hn => (Below.heap_setCell w p u k (by
    rintro rfl
    rcases hp with hp | hp
    · exact hn hp
    · omega)).trans (h.block k hk hn)⟩
theorem Mod.trans {b : World} (h : Mod S a w) (k : Mod T w b) (hT : ∀ x, x ∈ T → x ∈ S ∨ a.heap.size ≤ x) : Mod S a b :=
  ⟨k.os.trans h.os, k.tape.trans h.tape, k.output.trans h.output, Nat.le_trans h.size k.size, fun x hx hn =>
    (k.block x (Nat.lt_of_lt_of_le hx h.size) (fun hm => by rcases hT x hm with h1 | h1 <;> first | exact hn h1 | omega)).trans (h.block x hx hn)⟩
theorem Mod.mono (h : Mod S a w) (hT : ∀ x, x ∈ S → x ∈ T ∨ a.heap.size ≤ x) : Mod T a w :=
  ⟨h.os, h.tape, h.output, h.size, fun x hx hn => h.block x hx (fun hm => by rcases hT x hm with h1 | h1 <;> first | exact hn h1 | omega)⟩
theorem Mod.below (h : Mod [] a w) : Below a.heap.size a w := ⟨h.os, h.tape, h.output, h.size, fun k hk => h.block k hk (by simp)⟩
theorem Mod.of_below (h : Below a.heap.size a w) : Mod [] a w := ⟨h.os, h.tape, h.output, h.size, fun k hk _ => h.block k hk⟩
theorem Mod.grown {row : Option Nat} {b : World} (h : Mod S a w) (hg : w.grownBy b row) (hr : ∀ g, row = some g → g ∈ S ∨ a.heap.size ≤ g) : Mod S a b :=
  ⟨hg.os.trans h.os, hg.tape.trans h.tape, hg.output.trans h.output, Nat.le_trans h.size hg.size, fun k hk hn =>
    (hg.block k (Nat.lt_of_lt_of_le hk h.size) (fun e => by rcases hr k e.symm with h1 | h1 <;> first | exact hn h1 | omega)).trans (h.block k hk hn)⟩
theorem Mod.cell (h : Mod S a w) {p : Addr} (hp : p.block < a.heap.size) (hn : p.block ∉ S) : w.cell? p = a.cell? p := World.cell?_of_block (w := a) (h.block p.block hp hn)
theorem Mod.frozen (h : Mod S a w) {p : Addr} (hp : p.block < a.heap.size) (hn : p.block ∉ S) : w.frozen? p = a.frozen? p := World.frozen?_of_block (w := a) (h.block p.block hp hn)
end

/-- Block g is just the cells cs of element type t, none frozen. -/
def Blk (w : World) (g : Nat) (t : TypeId) (cs : List Value) : Prop := w.heap[g]? = some (.cells cs.toArray t (0, 0))

section
variable {S : List Nat} {w w' : World} {g : Nat} {t : TypeId} {cs : List Value}
theorem heap_lt {o : Obj} (h : w.heap[g]? = some o) : g < w.heap.size := by
  rcases Nat.lt_or_ge g w.heap.size with hlt | hge
  · exact hlt
  · rw [Array.getElem?_eq_none hge] at h; cases h
theorem Blk.lt (h : Blk w g t cs) : g < w.heap.size := heap_lt h
theorem Blk.cell (h : Blk w g t cs) (i : Nat) : w.cell? ⟨g, i, none⟩ = cs[i]? := by
  have := cell_of_row w g i cs.toArray t (0, 0) h
  simpa using this
theorem Blk.frozen (h : Blk w g t cs) (i : Nat) : w.frozen? ⟨g, i, none⟩ = false := by
  unfold Blk at h
  simp [World.frozen?, h]
theorem Blk.new (w : World) (t : TypeId) (cs : List Value) : Blk (w.alloc (.cells cs.toArray t)) w.heap.size t cs := heap_alloc_new w _
theorem Blk.drew (h : Blk w g t cs) : Blk w.drew g t cs := h
theorem Blk.drewN (h : Blk w g t cs) (n : Nat) : Blk (w.drewN n) g t cs := h
theorem Blk.alloc (h : Blk w g t cs) (o : Obj) : Blk (w.alloc o) g t cs := (Below.heap_alloc w o g h.lt).trans h
theorem Blk.set_ (h : Blk w g t cs) (i : Nat) (u : Value) : Blk (w.setCell ⟨g, i, none⟩ u) g t (cs.set i u) := by
  unfold Blk at h ⊢
  simp [World.setCell, Array.getElem?_modify, h]
theorem Blk.far (h : Blk w g t cs) {p : Addr} (hp : g ≠ p.block) (u : Value) : Blk (w.setCell p u) g t cs := (Below.heap_setCell w p u g hp).trans h
theorem Blk.mod (h : Blk w g t cs) (hb : Mod S w w') (hg : g ∉ S) : Blk w' g t cs := (hb.block g h.lt hg).trans h
theorem Blk.grown {row : Option Nat} (h : Blk w g t cs) (hb : w.grownBy w' row) (hg : some g ≠ row) : Blk w' g t cs := (hb.block g h.lt hg).trans h
theorem Blk.ne_ {g' : Nat} {t' : TypeId} {cs' : List Value} (h : Blk w g t cs) (h' : Blk w g' t' cs') (hne : t ≠ t') : g ≠ g' := by
  rintro rfl
  unfold Blk at h h'
  rw [h] at h'
  injection h' with h'
  injection h' with _ ht
  exact hne ht
theorem Blk.own {base size n : Nat} (h : Blk w g t cs) (hb : base ≤ g) (hm : n ≤ maxLen) (hs : cs.length = n * size) : w.ownsRow base t size (.slice (some ⟨g, 0, none⟩) n n) n cs :=
  ⟨hs, .inr ⟨g, n, cs.toArray, rfl, hb, h, Nat.le_refl _, hm, by simpa using hs, by rw [← hs]; simp⟩⟩
end

/-- Elements as cells, one behind the other. -/
def flat {α : Type} (enc : α → List Value) (xs : List α) : List Value := (xs.map enc).flatten

section
variable {α : Type} {enc : α → List Value} {sz : Nat}
theorem flat_nil : flat enc ([] : List α) = [] := rfl
theorem flat_cons (x : α) (xs : List α) : flat enc (x :: xs) = enc x ++ flat enc xs := rfl
theorem flat_append (xs ys : List α) : flat enc (xs ++ ys) = flat enc xs ++ flat enc ys := by simp [flat]
theorem flat_one (x : α) : flat enc [x] = enc x := by simp [flat]
theorem flat_length (h : ∀ a, (enc a).length = sz) (xs : List α) : (flat enc xs).length = xs.length * sz := by
  induction xs with
  | nil => simp [flat]
  | cons x xs ih => rw [flat_cons, List.length_append, h, ih, List.length_cons, Nat.succ_mul]; omega
theorem flat_get (h : ∀ a, (enc a).length = sz) (xs : List α) (i j : Nat) (hj : j < sz) : (flat enc xs)[i * sz + j]? = xs[i]?.bind fun a => (enc a)[j]? := by
  induction xs generalizing i with
  | nil => simp [flat]
  | cons x xs ih =>
    rw [flat_cons]
    cases i with
    | zero =>
      rw [Nat.zero_mul, Nat.zero_add, List.getElem?_append_left (by rw [h]; exact hj)]
      simp
    | succ i =>
      rw [Nat.succ_mul, List.getElem?_append_right (by rw [h]; omega), h, show i * sz + sz + j - sz = i * sz + j from by omega, ih]
      simp
theorem flat_drop (h : ∀ a, (enc a).length = sz) (xs : List α) (i : Nat) : (flat enc xs).drop (i * sz) = flat enc (xs.drop i) := by
  induction xs generalizing i with
  | nil => simp [flat]
  | cons x xs ih =>
    cases i with
    | zero => simp
    | succ i =>
      rw [flat_cons, Nat.succ_mul, List.drop_succ_cons, ← ih, Nat.add_comm, ← List.drop_drop, List.drop_left' (h x)]
theorem flat_take (h : ∀ a, (enc a).length = sz) (xs : List α) (i : Nat) : (flat enc xs).take (i * sz) = flat enc (xs.take i) := by
  induction xs generalizing i with
  | nil => simp [flat]
  | cons x xs ih =>
    cases i with
    | zero => simp [flat]
    | succ i =>
      rw [List.take_succ_cons, flat_cons, flat_cons, ← ih, Nat.succ_mul, Nat.add_comm, List.take_add, List.take_left' (h x), List.drop_left' (h x)]
theorem flat_snoc {xs : List α} {k : Nat} {x : α} (h : xs[k]? = some x) : flat enc (xs.take k) ++ enc x = flat enc (xs.take (k + 1)) := by
  have hk : k < xs.length := by
    rcases Nat.lt_or_ge k xs.length with h1 | h1
    · exact h1
    · rw [List.getElem?_eq_none h1] at h; cases h
  rw [List.take_succ_eq_append_getElem hk, flat_append, flat_one]
  rw [List.getElem?_eq_getElem hk] at h
  injection h with h
  rw [h]
theorem lt_of_some {xs : List α} {k : Nat} {x : α} (h : xs[k]? = some x) : k < xs.length := by
  rcases Nat.lt_or_ge k xs.length with h1 | h1
  · exact h1
  · rw [List.getElem?_eq_none h1] at h; cases h
theorem flat_set (h : ∀ a, (enc a).length = sz) (xs : List α) (i : Nat) (hi : i < xs.length) (x : α) : (flat enc xs).take (i * sz) ++ (enc x ++ (flat enc xs).drop (i * sz + sz)) = flat enc (xs.set i x) := by
  rw [flat_take h, ← Nat.succ_mul, flat_drop h, List.set_eq_take_append_cons_drop, if_pos hi, flat_append, flat_cons]
end
end Go.Proofs.Ytdjogfofedbohaa
end
section
/- The queue's small methods: what Len, at, Head and Pop answer, of a queue that is known. Conditions: the queue is not nil; counts below 2^40. -/
namespace Go.Proofs.Ytdjogfofedbohaa
open Go.RowKit

abbrev Ent := Int × Int × Int
def ent (e : Ent) : List Value := [.int .i64 e.1, .int .i64 e.2.1, .int .i64 e.2.2]
theorem ent_len (e : Ent) : (ent e).length = 3 := rfl

structure QAt (w : World) (q rb L f t : Nat) (xs : List Ent) : Prop where
  blk : Blk w q 172 [.slice (some ⟨rb, 0, none⟩) L L, .int .u64 f, .int .u64 t]
  ring : ∃ R : List Ent, R.length = L ∧ Blk w rb 191 (flat ent R) ∧ ∀ i, i < xs.length → R[(f + i) % L]? = xs[i]?
  pow : ∃ k, L = 2 ^ k
  pos : 4 ≤ L
  big : L < 1099511627776
  len : t = f + xs.length
  fits : xs.length ≤ L
  bound : t < 1099511627776

theorem mask (n k : Nat) (h : 2 ^ k < 1099511627776) (hn : n < 1099511627776) : bits .and .u64 (n : Int) (IntKind.u64.wrap (IntKind.i64.wrap (((2 ^ k : Nat) : Int) - 1))) = ((n % 2 ^ k : Nat) : Int) := by
  have hp : 0 < 2 ^ k := Nat.two_pow_pos k
  have e : IntKind.u64.wrap (IntKind.i64.wrap (((2 ^ k : Nat) : Int) - 1)) = ((2 ^ k - 1 : Nat) : Int) := by
    rw [IntWalk.i64_in _ (by omega), IntWalk.u64_in _ (by omega)]
    omega
  rw [e, u64_and_nat _ _ (by omega) (by omega), Nat.and_two_pow_sub_one_eq_mod]

theorem len_cells (q f t : Nat) (w : World) (hft : f ≤ t) (ht : t < 1099511627776) (h1 : w.cell? ⟨q, 1, none⟩ = some (.int .u64 f)) (h2 : w.cell? ⟨q, 2, none⟩ = some (.int .u64 t)) :
    Calls Try.prog 118 #[.pointer (some ⟨q, 0, none⟩)] w fun e w' => e = .returned (.int .i64 ((t : Int) - f)) ∧ ∃ n, w' = w.drewN n := by
  go_enter Try.func118, Try.ntmps118
  go_wp2
  go_quiet (fail)
  go_wp2
  go_ret
  exact ⟨rfl, _, rfl⟩

theorem at_cells (q rb k n : Nat) (w : World) (hL : 2 ^ k < 1099511627776) (hn : n < 1099511627776) (h0 : w.cell? ⟨q, 0, none⟩ = some (.slice (some ⟨rb, 0, none⟩) (2 ^ k) (2 ^ k))) :
    Calls Try.prog 120 #[.pointer (some ⟨q, 0, none⟩), .int .u64 n] w fun e w' => e = .returned (.pointer (some ⟨rb, (n % 2 ^ k) * 3, none⟩)) ∧ ∃ n, w' = w.drewN n := by
  have hp : 0 < 2 ^ k := Nat.two_pow_pos k
  have hm := mask n k hL hn
  have hlt : n % 2 ^ k < 2 ^ k := Nat.mod_lt _ hp
  generalize 2 ^ k = L at *
  generalize n % L = r at *
  go_enter Try.func120, Try.ntmps120
  go_wp2
  go_quiet (fail)
  go_wp2
  go_ret
  exact ⟨rfl, _, rfl⟩
end Go.Proofs.Ytdjogfofedbohaa
end
section
/- Maps whose keys are places (three numbers) and whose elements are words. -/
namespace Go.Proofs.Ytdjogfofedbohaa
open Go.RowKit

abbrev Pl := Int × Int × Int
def kagg (p : Pl) : Value := .agg #[.int .i64 p.1, .int .i64 p.2.1, .int .i64 p.2.2]
def PlWf (p : Pl) : Prop := (Lit.int .i64 p.1).wf = true ∧ (Lit.int .i64 p.2.1).wf = true ∧ (Lit.int .i64 p.2.2).wf = true
def litP (p : Pl) : Lit := .string (keyBytes [.int .i64 p.1, .int .i64 p.2.1, .int .i64 p.2.2])

theorem laid_m : laidOutB Try.prog = true := by kernel_rfl
set_option maxRecDepth 100000 in
theorem place_law : WideMaps.KeyLaw Try.prog 34 := deep_law_gate laid_m (of_decide_eq_true (by kernel_rfl)) (of_decide_eq_true (by kernel_rfl)) (by kernel_rfl) (by kernel_rfl)
theorem place_keyed : Maps.Keyed Try.prog 34 := Maps.Keyed.of_law place_law

theorem keyOf_place (p : Pl) (h : PlWf p) : keyOf Try.prog 34 (kagg p) = some (litP p) := by
  obtain ⟨h1, h2, h3⟩ := h
  have hk : Try.prog.keyType 34 = true := by kernel_rfl
  have hI : Try.prog.cellsOf 3 = 1 := by kernel_rfl
  have hC : Try.prog.cellsOf 34 = 3 := by kernel_rfl
  obtain ⟨n, hn⟩ : ∃ n, Try.prog.types.size + 1 = n + 1 + 1 := ⟨Try.prog.types.size - 1, by have : 1 ≤ Try.prog.types.size := of_decide_eq_true (by kernel_rfl); omega⟩
  unfold keyOf
  rw [Try.underlying34, hn]
  simp [hk, kagg, litP, Program.keyLits, Try.underlying34, Try.underlying3, hI, hC, h1, h2, h3, Value.cells, Value.formed]
end Go.Proofs.Ytdjogfofedbohaa
end
section
/- A map from places to words as a function: what a look-up, a store and a deletion do. Condition: the places' numbers fit int. -/
namespace Go.Proofs.Ytdjogfofedbohaa
open Go.RowKit

theorem litP_inj {p q : Pl} (hp : PlWf p) (hq : PlWf q) (h : litP p = litP q) : p = q := by
  have h1 := keyOf_place p hp
  have h2 := keyOf_place q hq
  rw [← h] at h2
  have := place_law.inj h1 h2
  obtain ⟨p1, p2, p3⟩ := p
  obtain ⟨q1, q2, q3⟩ := q
  simpa [kagg] using this

/-- Block b is a map of at most n entries that holds the words f (no entry where f is 0). -/
def MapAt (w : World) (b : Nat) (f : Pl → Int) (n : Nat) : Prop :=
  ∃ D : DataW Unit, w.ownsMap Try.prog 34 (plainElem Try.prog 35) b n D ∧
    (∀ p, PlWf p → D.atKey (litP p) (.lit (.int .u64 0)) = .lit (.int .u64 (f p))) ∧ ∀ p, PlWf p → Maps.has D (litP p) = decide (f p ≠ 0)

theorem MapAt.mod {S : List Nat} {w w' : World} {b n : Nat} {f : Pl → Int} (h : MapAt w b f n) (hm : Mod S w w') (hb : b ∉ S) : MapAt w' b f n := by
  obtain ⟨D, ⟨es, cl, h1, h2⟩, h3⟩ := h
  exact ⟨D, ⟨es, cl, by rw [hm.block b (heap_lt h1) hb]; exact h1, h2⟩, h3⟩

theorem MapAt.new (w : World) : MapAt (w.alloc (.map #[] 0)) w.heap.size (fun _ => 0) 0 :=
  ⟨.map [], World.ownsMap_made w _ _ _, fun p _ => by simp [DataW.atKey], fun p _ => by simp [Maps.has]⟩

set_option maxRecDepth 100000 in
theorem MapAt.lookup {w : World} {b n : Nat} {f : Pl → Int} (h : MapAt w b f n) {p : Pl} (hp : PlWf p) {t : TypeId} (ht : Try.prog.underlying t = some (.map 34 35)) :
    (Instr.lookup t (.map (some b)) (kagg p) false).run Try.prog w = .ok (.int .u64 (f p)) w := by
  obtain ⟨D, ho, ha, _⟩ := h
  obtain ⟨c, h1, h2, _⟩ := ho.lookup_int place_keyed ht Try.underlying35 (by kernel_rfl) (keyOf_place p hp)
  rw [ha p hp] at h2
  injection h2 with h2
  injection h2 with _ h2
  rw [h1, h2]

theorem Mod.of_turned {w w' : World} {b : Nat} (h : w.mapTurned w' b) : Mod [b] w w' := by
  have hg := h.grown
  exact (Mod.refl [b] w).grown hg (fun g hg => by injection hg with hg; subst hg; exact .inl (by simp))

theorem MapAt.store {w : World} {b n : Nat} {f : Pl → Int} (h : MapAt w b f n) (hn : n < maxLen) {p : Pl} (hp : PlWf p) {v : Int} (hv : (Lit.int .u64 v).wf = true) (hv0 : v ≠ 0) {t : TypeId} (ht : Try.prog.underlying t = some (.map 34 35)) :
    ∃ w', (Instr.mapUpdate t (.map (some b)) (kagg p) (.int .u64 v)).run Try.prog w = .ok () w' ∧ MapAt w' b (fun q => if q = p then v else f q) (n + 1) ∧ Mod [b] w w' := by
  obtain ⟨D, ho, ha, hh⟩ := h
  obtain ⟨w', h1, h2, h3⟩ := ho.store place_keyed ht hn (keyOf_place p hp) (plainElem_int Try.underlying35 hv)
  refine ⟨w', h1, ⟨_, h2, fun q hq => ?_, fun q hq => ?_⟩, Mod.of_turned h3⟩
  · by_cases e : q = p
    · subst e
      rw [Maps.atKey_put_same ho.isMap (place_keyed.key (keyOf_place q hq))]
      simp
    · rw [Maps.atKey_put_other (fun h => e (litP_inj hq hp h)), ha q hq]
      simp [e]
  · by_cases e : q = p
    · subst e
      rw [Maps.has_put_same ho.isMap (place_keyed.key (keyOf_place q hq))]
      simp [hv0]
    · rw [Maps.has_put_other (fun h => e (litP_inj hq hp h)), hh q hq]
      simp [e]

theorem MapAt.drop {w : World} {b n : Nat} {f : Pl → Int} (h : MapAt w b f n) {p : Pl} (hp : PlWf p) {t : TypeId} (ht : Try.prog.underlying t = some (.map 34 35)) (ty : TypeId) :
    ∃ w', (Builtin.delete_ #[t, 34] ty #[.map (some b), kagg p]).run Try.prog w = .ok (.tuple #[]) w' ∧ MapAt w' b (fun q => if q = p then 0 else f q) n ∧ Mod [b] w w' := by
  obtain ⟨D, ho, ha, hh⟩ := h
  obtain ⟨w', h1, h2, h3⟩ := ho.drop place_keyed ht (keyOf_place p hp) ty
  refine ⟨w', h1, ⟨_, h2, fun q hq => ?_, fun q hq => ?_⟩, Mod.of_turned h3⟩
  · by_cases e : q = p
    · subst e
      rw [Maps.atKey_del_same]
      simp
    · rw [Maps.atKey_del_other (fun h => e (litP_inj hq hp h)), ha q hq]
      simp [e]
  · by_cases e : q = p
    · subst e
      rw [Maps.has_del_same]
      simp
    · rw [Maps.has_del_other (fun h => e (litP_inj hq hp h)), hh q hq]
      simp [e]
end Go.Proofs.Ytdjogfofedbohaa
end
section
/- A key of a map of places is a place's value whose numbers fit int. -/
namespace Go.Proofs.Ytdjogfofedbohaa
open Go.RowKit Go.Maps

set_option maxRecDepth 100000 in
theorem keyLits_int {n : Nat} {x : Value} {l : List Lit} (h : Try.prog.keyLits (n + 1) 3 [x] = some l) : ∃ i, x = .int .i64 i ∧ (Lit.int .i64 i).wf = true ∧ l = [.int .i64 i] := by
  unfold Program.keyLits at h
  rw [Try.underlying3] at h
  cases x <;> simp at h
  obtain ⟨⟨rfl, hw⟩, rfl⟩ := h
  exact ⟨_, rfl, hw, rfl⟩

set_option maxRecDepth 100000 in
theorem keyOf_inv {v : Value} {kl : Lit} (h : keyOf Try.prog 34 v = some kl) : ∃ p : Pl, v = kagg p ∧ PlWf p ∧ kl = litP p := by
  have hk : Try.prog.keyType 34 = true := by kernel_rfl
  have hI : Try.prog.cellsOf 3 = 1 := by kernel_rfl
  have hC : Try.prog.cellsOf 34 = 3 := by kernel_rfl
  obtain ⟨n, hn⟩ : ∃ n, Try.prog.types.size + 1 = n + 1 + 1 := ⟨Try.prog.types.size - 1, by have : 1 ≤ Try.prog.types.size := of_decide_eq_true (by kernel_rfl); omega⟩
  have h0 := h
  unfold keyOf at h
  rw [Try.underlying34, hn] at h
  cases v <;> simp only [hk, Value.formed, Try.underlying34, Bool.and_false, Bool.false_eq_true, if_false, Bool.true_and, reduceCtorEq] at h
  rename_i cs
  rw [hC] at h
  split at h
  · rename_i h3
    have h3 : cs.toList.length = 3 := by simpa using h3
    obtain ⟨l⟩ := cs
    match l, h3 with
    | [a, b, c], _ =>
      rw [Program.keyLits.eq_def] at h
      simp only [] at h
      generalize hg : Try.prog.keyLits (n + 1) = g at h
      simp [Try.underlying34, Value.cells, hC, hI] at h
      subst hg
      cases hx : Try.prog.keyLits (n + 1) 3 [a] with
      | none => rw [hx] at h; simp at h
      | some x =>
      cases hy : Try.prog.keyLits (n + 1) 3 [b] with
      | none => rw [hx, hy] at h; simp at h
      | some y =>
      cases hz : Try.prog.keyLits (n + 1) 3 [c] with
      | none => rw [hx, hy, hz] at h; simp at h
      | some z =>
      obtain ⟨i, rfl, hi, rfl⟩ := keyLits_int hx
      obtain ⟨j, rfl, hj, rfl⟩ := keyLits_int hy
      obtain ⟨k, rfl, hk, rfl⟩ := keyLits_int hz
      have hp : PlWf (i, j, k) := ⟨hi, hj, hk⟩
      refine ⟨(i, j, k), rfl, hp, ?_⟩
      have := keyOf_place (i, j, k) hp
      rw [show kagg (i, j, k) = .agg ⟨[.int .i64 i, .int .i64 j, .int .i64 k]⟩ from rfl, h0] at this
      injection this
  · cases h
end Go.Proofs.Ytdjogfofedbohaa
end
section
/- maps.Equal at map[api.Place]uint64 (the shelf's proof, turned to a struct key): both maps not nil. -/
namespace Go.Proofs.Ytdjogfofedbohaa
open Go.RowKit Go.Maps

/-- Whether two words are one. -/
def eqU (a b : DataW Unit) : Bool := match a, b with
  | .lit (.int _ i), .lit (.int _ j) => i == j
  | _, _ => false

set_option maxHeartbeats 4000000 in
set_option maxRecDepth 100000 in
theorem equal_maps (R : Value → Option (DataW Unit × List MemPlace)) (hR : ∀ {v : Value} {z : DataW Unit × List MemPlace}, R v = some z → ∃ a, v = .int .u64 a ∧ z = (.lit (.int .u64 a), [])) (b1 b2 n1 n2 : Nat) (D1 D2 : DataW Unit) (w : World)
    (h1 : w.ownsMap Try.prog 34 R b1 n1 D1) (h2 : w.ownsMap Try.prog 34 R b2 n2 D2)
    (zp : List MemPlace) (hzd : R (.int .u64 0) = some (.lit (.int .u64 0), zp))
    (hz2 : ∀ w, (zeroValue 35).run Try.prog w = .ok (.int .u64 0) w)
    (hneq : ∀ (W : World) (x y : Value) (xd yd : DataW Unit) (xp yp : List MemPlace), R x = some (xd, xp) → R y = some (yd, yp) → (binOp .neq 35 x y).run Try.prog W = .ok (.bool (!eqU xd yd)) W ∧ ∀ (a b : Operand), (eqGuard .neq 35 a b x y).run Try.prog W = .ok () W) :
    Calls Try.prog 67 #[.map (some b1), .map (some b2)] w fun e w' => e = .returned (.bool (Lib.equalFuncD eqU D1 D2)) ∧ w.grownBy w' none := by
  have l1 := fun ty => h1.len (t := 110) Try.underlying110 ty
  have l2 := fun ty => h2.len (t := 110) Try.underlying110 ty
  obtain ⟨es1, rfl, hap, hkeys⟩ := h1.entries place_keyed
  have hb2 := h2.lt
  have HQ : Aside _ := hneq
  clear hneq
  generalize hres : Lib.equalFuncD eqU (.map es1) D2 = res
  have RES : Aside (Lib.equalFuncD eqU (.map es1) D2 = res) := hres
  clear hres
  by_cases hsz : Maps.size (.map es1 : DataW Unit) = Maps.size D2
  · go_enter Try.func67, Try.ntmps67
    go_wp2_with (first
      | (at_range; refine wpList_range_own _ rfl _ 110 rfl 34 35 place_keyed Try.underlying110 R b1 n1 _ rfl h1 ?_; intro w0 hrg0 hg0 hs0)
      | go_in)
    go_frame
    go_loopw [18] (fun _ wr => ∃ (left : Lit → Bool) (cnt : Nat), wr.ranges Try.prog 34 R b1 w.heap.size n1 (.map es1) left cnt ∧ wr.ownsMap Try.prog 34 R b2 n2 D2 ∧ w.grownBy wr none ∧ Aside (GoodAt eqU es1 D2 left))
      (fun _ wr => wr.rangeLeft b1 w.heap.size)
    case atStart => exact ⟨_, _, hrg0, h2.kept hg0 (by simp), hg0, good_start hkeys D2⟩
    case round =>
      obtain ⟨left, cnt, hrg, h2r, hgw, G⟩ := hrel
      go_wp2_with (first
        | (at_next; refine wpList_next_ranges _ rfl _ rfl 34 place_keyed R (fun p : Pl => .agg #[.int .i64 p.1, .int .i64 p.2.1, .int .i64 p.2.2]) (fun i => .int .u64 i) (fun key _ h => by obtain ⟨p, rfl, _⟩ := keyOf_inv h; exact ⟨p, rfl⟩) (fun v _ h => by obtain ⟨a, rfl, _⟩ := hR h; exact ⟨a, rfl⟩) b1 w.heap.size n1 _ _ _ rfl hrg ?_ ?_)
        | go_in)
      · -- NOTHING IS LEFT
        intro _ hl0
        go_wp2
        go_ret
        exact ⟨by rw [← RES.out, all_good G.out hl0 hsz]; rfl, hgw⟩
      · -- AN ENTRY HAS COME
        intro x y z c kl yd yp w1 cnt1 hkey hlx hv hat hrg1 hlt hg1 hs1 hen
        have hgw1 : w.grownBy w1 none := hgw.andThen hg1 (fun j hj => by cases hj; exact Or.inl (Nat.le_refl _))
        have h2w1 := h2r.kept hg1 (fun e => by have := Option.some.inj e; omega)
        have HAT : Aside (∀ zd, (DataW.map es1).atKey kl zd = yd) := hat
        clear hat
        have h2a := h2w1.kept (World.grownBy_alloc w1 (.cells #[.int .i64 x, .int .i64 y, .int .i64 z] 34) none) (by simp)
        have hrga := hrg1.alloc (.cells #[.int .i64 x, .int .i64 y, .int .i64 z] 34)
        have hgwa := hgw1.andThen (World.grownBy_alloc w1 (.cells #[.int .i64 x, .int .i64 y, .int .i64 z] 34) none) (fun j hj => by cases hj)
        cases hh : Maps.has D2 kl
        · have hbad : Lib.goodD eqU D2 (kl, yd) = false := by unfold Lib.goodD; rw [hh]; rfl
          go_wp2_with (first
            | (at_lookup; refine wpList_lookup_own_ok _ rfl _ _ 110 rfl 34 35 place_keyed Try.underlying110 R (hz2 _) (.lit (.int .u64 0)) zp hzd b2 n2 D2 rfl h2a _ kl rfl hkey ?_; intro v2 ps2 hv2; rw [hh]; go_frame)
            | go_in)
          go_ret
          exact ⟨by rw [← RES.out, bad_false hap hkeys HAT.out hbad]; rfl, hgwa⟩
        · cases he : eqU yd (D2.atKey kl (.lit (.int .u64 0)))
          · have hbad : Lib.goodD eqU D2 (kl, yd) = false := by unfold Lib.goodD; rw [hh, atKey_indep hh .nil (.lit (.int .u64 0)), he]; rfl
            go_wp2_with (first
              | (at_lookup; refine wpList_lookup_own_ok _ rfl _ _ 110 rfl 34 35 place_keyed Try.underlying110 R (hz2 _) (.lit (.int .u64 0)) zp hzd b2 n2 D2 rfl h2a _ kl rfl hkey ?_; intro v2 ps2 hv2; rw [hh]; go_frame; have hc := fun W => (HQ.out W (.int .u64 c) v2 yd _ yp ps2 hv hv2).1; have hgd := fun W => (HQ.out W (.int .u64 c) v2 yd _ yp ps2 hv hv2).2; rw [he] at hc)
              | go_in)
            go_ret
            exact ⟨by rw [← RES.out, bad_false hap hkeys HAT.out hbad]; rfl, hgwa⟩
          · have hgood : Lib.goodD eqU D2 (kl, yd) = true := by unfold Lib.goodD; rw [hh, atKey_indep hh .nil (.lit (.int .u64 0)), he]; rfl
            go_wp2_with (first
              | (at_lookup; refine wpList_lookup_own_ok _ rfl _ _ 110 rfl 34 35 place_keyed Try.underlying110 R (hz2 _) (.lit (.int .u64 0)) zp hzd b2 n2 D2 rfl h2a _ kl rfl hkey ?_; intro v2 ps2 hv2; rw [hh]; go_frame; have hc := fun W => (HQ.out W (.int .u64 c) v2 yd _ yp ps2 hv hv2).1; have hgd := fun W => (HQ.out W (.int .u64 c) v2 yd _ yp ps2 hv hv2).2; rw [he] at hc)
              | go_in)
            go_roundw
            case rel => exact ⟨_, cnt1, hrga, h2a, hgwa, good_step hap hkeys HAT.out G.out hgood⟩
            case measure => rw [hrga.left_eq, hrg.left_eq]; exact hlt
  · have hne : ¬ ((Maps.size (.map es1 : DataW Unit) : Int) = (Maps.size D2 : Int)) := fun e => hsz (by exact_mod_cast e)
    go_enter Try.func67, Try.ntmps67
    go_wp2
    go_ret
    exact ⟨by rw [← RES.out, sizes_false hsz]; rfl, World.grownBy.refl _ _⟩
end Go.Proofs.Ytdjogfofedbohaa
end
section
/- What maps.Equal answers at maps of places: whether they are one as functions. -/
namespace Go.Proofs.Ytdjogfofedbohaa
open Go.RowKit Go.Maps
open Go.WideShapes
open Go.WideElems (Fit rg rd_key rg_of)

theorem keys_owned {R : Value → Option (DataW Unit × List MemPlace)} {w : World} {b n : Nat} {D : DataW Unit} (h : w.ownsMap Try.prog 34 R b n D) {k : Lit} (hk : has D k = true) : ∃ q, PlWf q ∧ k = litP q := by
  obtain ⟨es, clock, _, F, _, rfl⟩ := h
  rw [has_eq] at hk
  obtain ⟨p, hp, e⟩ := List.any_eq_true.1 hk
  have e := WideAt.sameKey_eq e
  subst e
  obtain ⟨x, hx, rfl⟩ := List.mem_map.1 (mem_sorted.1 hp)
  obtain ⟨y, hy⟩ := F.reads x hx
  rw [rg_of hy]
  obtain ⟨q, _, hq, h2⟩ := keyOf_inv (rd_key hy)
  exact ⟨q, hq, h2⟩

theorem sub_back {α : Type} : ∀ {l1 l2 : List α}, l1.Pairwise (· ≠ ·) → (∀ x ∈ l1, x ∈ l2) → l2.length ≤ l1.length → ∀ x ∈ l2, x ∈ l1
  | [], l2, _, _, hl, x, hx => by cases l2 <;> simp_all
  | a :: r, l2, hp, hs, hl, x, hx => by
    classical
    obtain ⟨ha, hr⟩ := List.pairwise_cons.1 hp
    have ha2 := hs a (by simp)
    by_cases e : x = a
    · simp [e]
    · have h1 : (l2.erase a).length ≤ r.length := by rw [List.length_erase_of_mem ha2]; simp at hl; omega
      exact List.mem_cons_of_mem _ (sub_back hr (fun y hy => (List.mem_erase_of_ne (fun e => (ha y hy) e.symm)).2 (hs y (by simp [hy]))) h1 x ((List.mem_erase_of_ne e).2 hx))

theorem equal_iff {w w' : World} {b1 b2 n1 n2 : Nat} {D1 D2 : DataW Unit} {R : Value → Option (DataW Unit × List MemPlace)} {f g : Pl → Int}
    (o1 : w.ownsMap Try.prog 34 R b1 n1 D1) (o2 : w'.ownsMap Try.prog 34 R b2 n2 D2)
    (a1 : ∀ p, PlWf p → D1.atKey (litP p) (.lit (.int .u64 0)) = .lit (.int .u64 (f p))) (h1 : ∀ p, PlWf p → has D1 (litP p) = decide (f p ≠ 0))
    (a2 : ∀ p, PlWf p → D2.atKey (litP p) (.lit (.int .u64 0)) = .lit (.int .u64 (g p))) (h2 : ∀ p, PlWf p → has D2 (litP p) = decide (g p ≠ 0)) :
    Lib.equalFuncD eqU D1 D2 = true ↔ ∀ p, PlWf p → f p = g p := by
  have c1 := o1.canon place_keyed
  have c2 := o2.canon place_keyed
  have k1 := fun k => keys_owned o1 (k := k)
  have k2 := fun k => keys_owned o2 (k := k)
  constructor
  · intro he
    obtain ⟨es1, rfl, s1, q1⟩ := c1
    obtain ⟨es2, rfl, s2, q2⟩ := c2
    unfold Lib.equalFuncD at he
    simp only [Bool.and_eq_true, decide_eq_true_eq, List.all_eq_true, Lib.entriesD, size_eq] at he
    obtain ⟨hz, hg⟩ := he
    have p1 := apart_of_rising s1
    have sub : ∀ x ∈ es1.map (·.1), x ∈ es2.map (·.1) := by
      intro x hx
      obtain ⟨p, hp, rfl⟩ := List.mem_map.1 hx
      have := hg p hp
      unfold Lib.goodD at this
      rw [Bool.and_eq_true, has_eq] at this
      obtain ⟨q, hq, e⟩ := List.any_eq_true.1 this.1
      exact List.mem_map.2 ⟨q, hq, WideAt.sameKey_eq e⟩
    have back := sub_back (List.pairwise_map.2 p1) sub (by rw [List.length_map, List.length_map]; exact Nat.le_of_eq (of_decide_eq_true hz).symm)
    intro p hp
    by_cases h0 : f p = 0
    · by_cases g0 : g p = 0
      · rw [h0, g0]
      · have := h2 p hp
        rw [decide_eq_true g0, has_eq] at this
        obtain ⟨q, hq, e⟩ := List.any_eq_true.1 this
        have e := WideAt.sameKey_eq e
        obtain ⟨q', hq', e'⟩ := List.mem_map.1 (back q.1 (List.mem_map.2 ⟨q, hq, rfl⟩))
        have h3 := h1 p hp
        rw [decide_eq_false (by simpa using h0)] at h3
        have : has (.map es1) (litP p) = true := by
          rw [has_eq]
          exact List.any_eq_true.2 ⟨q', hq', by rw [← e, ← e']; exact WideAt.sameKey_self (q1 q' hq')⟩
        rw [h3] at this
        cases this
    · have h3 := h1 p hp
      rw [decide_eq_true h0] at h3
      have h4 := h3
      rw [has_eq] at h4
      obtain ⟨q, hq, e⟩ := List.any_eq_true.1 h4
      have e := WideAt.sameKey_eq e
      have h5 := hg q hq
      unfold Lib.goodD at h5
      rw [e, Bool.and_eq_true, atKey_indep h5.1 .nil (.lit (.int .u64 0)), a2 p hp] at h5
      have h6 : q.2 = (DataW.map es1).atKey (litP p) (.lit (.int .u64 0)) := (WideAt.atKey_mem _ (e ▸ q1 q hq) p1 (by rw [← e]; exact hq)).symm
      rw [h6, a1 p hp] at h5
      simpa [eqU] using h5.2
  · intro hfg
    have hh : ∀ k, has D1 k = has D2 k := by
      intro k
      cases hx : has D1 k with
      | true =>
        obtain ⟨q, hq, rfl⟩ := k1 k hx
        rw [← hx, h1 q hq, h2 q hq, hfg q hq]
      | false =>
        cases hy : has D2 k with
        | false => rfl
        | true =>
          obtain ⟨q, hq, rfl⟩ := k2 k hy
          rw [← hx, ← hy, h1 q hq, h2 q hq, hfg q hq]
    have : D1 = D2 := Maps.ext c1 c2 hh (fun k z hk => by
      obtain ⟨q, hq, rfl⟩ := k1 k hk
      rw [atKey_indep hk z (.lit (.int .u64 0)), atKey_indep (hh _ ▸ hk) z (.lit (.int .u64 0)), a1 q hq, a2 q hq, hfg q hq])
    subst this
    obtain ⟨es1, rfl, s1, q1⟩ := c1
    unfold Lib.equalFuncD
    simp only [Bool.and_eq_true, decide_eq_true_eq, List.all_eq_true, Lib.entriesD, true_and]
    intro p hp
    have hk : has (.map es1) p.1 = true := by
      rw [has_eq]
      exact List.any_eq_true.2 ⟨p, hp, WideAt.sameKey_self (q1 p hp)⟩
    have hat : (DataW.map es1).atKey p.1 .nil = p.2 := WideAt.atKey_mem .nil (q1 p hp) (apart_of_rising s1) hp
    obtain ⟨q, hq, e⟩ := k1 _ hk
    unfold Lib.goodD
    rw [hk, hat, Bool.true_and, ← hat, atKey_indep hk .nil (.lit (.int .u64 0)), e, a1 q hq]
    simp [eqU]

set_option maxRecDepth 100000 in
theorem equal_at {w : World} {b1 b2 n1 n2 : Nat} {f g : Pl → Int} (m1 : MapAt w b1 f n1) (m2 : MapAt w b2 g n2) :
    Calls Try.prog 67 #[.map (some b1), .map (some b2)] w fun e w' => ∃ r : Bool, e = .returned (.bool r) ∧ (r = true ↔ ∀ p, PlWf p → f p = g p) ∧ w.grownBy w' none := by
  obtain ⟨D1, o1, a1, h1⟩ := m1
  obtain ⟨D2, o2, a2, h2⟩ := m2
  refine (equal_maps (plainElem Try.prog 35) (fun {v z} h => ?_) b1 b2 n1 n2 D1 D2 w o1 o2 [] (plainElem_int Try.underlying35 (by decide)) Try.zeroValue35 ?_).mono ?_
  · obtain ⟨a, h1, h2, _⟩ := plainElem_int_inv Try.underlying35 h
    exact ⟨a, h1, h2⟩
  · intro W x y xd yd xp yp hx hy
    obtain ⟨i, rfl, e1, _⟩ := plainElem_int_inv Try.underlying35 hx
    obtain ⟨j, rfl, e2, _⟩ := plainElem_int_inv Try.underlying35 hy
    injection e1 with e1 _
    injection e2 with e2 _
    subst e1 e2
    constructor
    · simp [go_sem, eqU, binOp]
      rfl
    · intro a b
      simp [eqGuard]
  · rintro e w' ⟨rfl, hg⟩
    exact ⟨_, rfl, equal_iff o1 o2 a1 h1 a2 h2, hg⟩
end Go.Proofs.Ytdjogfofedbohaa
end
section
/- Which places of a map have come, while its keys are gone through. -/
namespace Go.Proofs.Ytdjogfofedbohaa
open Go.RowKit Go.Maps

def CollP (D0 : DataW Unit) (left : Lit → Bool) (ss : List Pl) : Prop := ss.Nodup ∧ (∀ x ∈ ss, PlWf x) ∧ ∀ x, PlWf x → (x ∈ ss ↔ (has D0 (litP x) = true ∧ left (litP x) = false))
theorem CollP.start (D0 : DataW Unit) : CollP D0 (has D0) [] := ⟨List.nodup_nil, (fun _ h => by cases h), fun x _ => by cases has D0 (litP x) <;> simp⟩
theorem CollP.step {D0 : DataW Unit} {left : Lit → Bool} {ss : List Pl} (h : CollP D0 left ss) {x : Pl} (hx : PlWf x) {y : DataW Unit} (hlk : left (litP x) = true) (hat : ∀ zd, D0.atKey (litP x) zd = y) : CollP D0 (fun z => left z && !z.sameKey (litP x)) (ss ++ [x]) := by
  obtain ⟨h1, h2, h3⟩ := h
  have hn : x ∉ ss := fun hm => by have := ((h3 x hx).1 hm).2; rw [hlk] at this; cases this
  have hkey := place_keyed.key (keyOf_place x hx)
  refine ⟨?_, ?_, fun z hz => ?_⟩
  · rw [List.nodup_append]
    exact ⟨h1, by simp, fun a ha b hb => by rw [List.mem_singleton] at hb; subst hb; rintro rfl; exact hn ha⟩
  · intro z hz
    rcases List.mem_append.1 hz with hz | hz
    · exact h2 z hz
    · rw [List.mem_singleton] at hz
      subst hz
      exact hx
  · rw [List.mem_append, List.mem_singleton, h3 z hz]
    by_cases e : z = x
    · subst e
      simp [WideAt.sameKey_self hkey, has_true_of_atKey hat]
    · have hne : (litP z).sameKey (litP x) = false := by
        cases hs : (litP z).sameKey (litP x)
        · rfl
        · exact absurd (litP_inj hz hx (WideAt.sameKey_eq hs)) e
      simp [e, hne]
/-- All have come. -/
theorem CollP.done {D0 : DataW Unit} {left : Lit → Bool} {ss : List Pl} (h : CollP D0 left ss) (hl : ∀ k, left k = false) : ss.Nodup ∧ (∀ x ∈ ss, PlWf x) ∧ ∀ x, PlWf x → (x ∈ ss ↔ has D0 (litP x) = true) :=
  ⟨h.1, h.2.1, fun x hx => by rw [h.2.2 x hx, hl]; simp⟩
end Go.Proofs.Ytdjogfofedbohaa
end
section
/- maps.Keys' iterator at maps of places. -/
namespace Go.Proofs.Ytdjogfofedbohaa
open Go.RowKit Go.Maps

abbrev kv (p : Pl) : Value := .agg #[.int .i64 p.1, .int .i64 p.2.1, .int .i64 p.2.2]
set_option maxRecDepth 100000 in
set_option maxHeartbeats 1000000 in
theorem keys1_in (F : Fence) (n : Nat) (h10 : F.fn 93) (hro : F.round = none) (hn : 1 ≤ n) (l Bm b nn : Nat) (D0 : DataW Unit) {R : Value → Option (DataW Unit × List MemPlace)} (J : List Pl → World → Prop)
    (hY : ∀ pre x W, J pre W → PlWf x → pre.length < Maps.size D0 → YieldAt F (n - 1) Try.prog l #[kv x] W fun e W' => e = .returned (.bool true) ∧ J (pre ++ [x]) W' ∧ KeepsWalks W W')
    (W : World) (hJ : AbidesFrom W.heap.size J) (hm : W.cell? ⟨Bm, 0, none⟩ = some (.map (some b))) (hown : W.ownsMap Try.prog 34 R b nn D0) (h0 : J [] W) :
    CallsIn F n Try.prog 93 #[.func (.yield l) #[] #[], .pointer (some ⟨Bm, 0, none⟩)] W fun e W' => (∃ v, e = .returned v) ∧ ∃ ss : List Pl, (ss.Nodup ∧ (∀ x ∈ ss, PlWf x) ∧ ∀ x, PlWf x → (x ∈ ss ↔ has D0 (litP x) = true)) ∧ J ss W' := by
  refine callsIn_of_wp Try.func93 rfl h10 ?_ hro
  simp only [Try.ntmps93, List.size_toArray, List.length_cons, List.length_nil, Nat.reduceAdd, Nat.reduceSub, Array.replicate_succ, Array.replicate_zero, List.push_toArray, List.append_toArray, List.nil_append, List.cons_append]
  gi_wp2_with (first
    | (gi_at_range; refine wpListIn_range_own _ rfl _ 110 rfl 34 35 place_keyed Try.underlying110 _ b nn _ rfl hown ?_; intro w0 hrg0 hg0 hs0)
    | gi_in)
  go_frame
  gi_loopw [7] (fun _ wr => ∃ (left : Lit → Bool) (cnt : Nat) (ss : List Pl), wr.ranges Try.prog 34 R b W.heap.size nn D0 left cnt ∧ ss.length + cnt ≤ Maps.size D0 ∧ CollP D0 left ss ∧ J ss wr)
    (fun _ wr => wr.rangeLeft b W.heap.size)
  case atStart =>
    exact ⟨_, _, [], hrg0, by simp, CollP.start D0, hJ [] W w0 none h0 hg0 (fun r e => by cases e)⟩
  case round =>
    obtain ⟨left, cnt, ss, hrg, hcs, hC, hJs⟩ := hrel
    gi_wp2_with (first
      | (gi_at_next; refine wpListIn_next_ranges _ rfl _ rfl 34 place_keyed R (fun p : Pl => .agg #[.int .i64 p.1, .int .i64 p.2.1, .int .i64 p.2.2]) id (fun key _ h => by obtain ⟨p, rfl, _⟩ := keyOf_inv h; exact ⟨p, rfl⟩) (fun v _ _ => ⟨v, rfl⟩) b W.heap.size nn _ _ _ rfl hrg ?_ ?_)
      | gi_in)
    · intro hc0 hl0
      gi_wp2
      go_end0
      exact ⟨⟨_, rfl⟩, ss, hC.done hl0, hJs⟩
    · intro x y z c kl yd yp w2 cnt2 hkey hlk hv hat hrg2 hlt hg2 hs2 hen
      obtain ⟨q, e0, hq, rfl⟩ := keyOf_inv hkey
      obtain rfl : q = (x, y, z) := by
        obtain ⟨q1, q2, q3⟩ := q
        simpa [kagg, eq_comm] using e0
      have hJ2 : J ss w2 := hJ ss wr w2 (some W.heap.size) hJs hg2 (fun r e => by cases e; exact ⟨Nat.le_refl _, hrg.iter_walk⟩)
      have hJ3 : J ss (w2.alloc (.cells #[.int .i64 x, .int .i64 y, .int .i64 z] 34)) := hJ ss w2 _ none hJ2 (World.grownBy_alloc _ _ _) (fun r e => by cases e)
      obtain ⟨fn, tmps, assign, body, hy, hR⟩ := hY ss (x, y, z) _ hJ3 hq (by omega)
      have hrga := hrg2.alloc (.cells #[.int .i64 x, .int .i64 y, .int .i64 z] 34)
      clear hs2 e0
      simp only [kv] at hy
      gi_wp2
      refine hR.mono ?_
      rintro e W3 ⟨rfl, hJ3, hk3⟩
      gi_wp2
      have hrg3 := hrga.of_walks hk3
      go_roundw
      case rel => exact ⟨_, cnt2, ss ++ [(x, y, z)], hrg3, by simp; omega, hC.step hq hlk hat, hJ3⟩
      case measure => rw [hrg3.left_eq, hrg.left_eq]; exact hlt
end Go.Proofs.Ytdjogfofedbohaa
end
section
/- maps.Keys at maps of places hands back an iterator over their keys. -/
namespace Go.Proofs.Ytdjogfofedbohaa
open Go.RowKit Go.Maps
set_option maxRecDepth 100000 in
set_option maxHeartbeats 1000000 in
theorem keys_in (F : Fence) (n : Nat) (h7 : F.fn 69) (hro : F.round = none) (mb : Option Nat) (w : World) :
    CallsIn F n Try.prog 69 #[.map mb] w fun e w' => e = .returned (.func (.func 93) #[] #[.pointer (some ⟨w.heap.size, 0, none⟩)]) ∧ w' = w.alloc (.cells #[.map mb] 110) := by
  refine callsIn_of_wp Try.func69 rfl h7 ?_ hro
  simp only [Try.ntmps69, List.size_toArray, List.length_cons, List.length_nil, Nat.reduceAdd, Nat.reduceSub, Array.replicate_succ, Array.replicate_zero, List.push_toArray, List.append_toArray, List.nil_append, List.cons_append]
  gi_wp2
  go_ret
  exact ⟨rfl, rfl⟩
theorem keys_gives (F : Fence) (n : Nat) (h10 : F.fn 93) (hro : F.round = none) (hn : 1 ≤ n) (Bm b nn : Nat) (D0 : DataW Unit) {R : Value → Option (DataW Unit × List MemPlace)} (w : World) (hBm : Bm < w.heap.size)
    (hm : w.cell? ⟨Bm, 0, none⟩ = some (.map (some b))) (hown : w.ownsMap Try.prog 34 R b nn D0) :
    SeqGives F n Try.prog 93 #[.pointer (some ⟨Bm, 0, none⟩)] kv (fun ss => ss.Nodup ∧ (∀ x ∈ ss, PlWf x) ∧ ∀ x, PlWf x → (x ∈ ss ↔ has D0 (litP x) = true)) (Maps.size D0) w := fun l J W hW hJ hY h0 => by
  have hown' : W.ownsMap Try.prog 34 R b nn D0 := by
    have hbl := hown.lt
    obtain ⟨es, clock, hb, Ft, hs, hD⟩ := hown
    exact ⟨es, clock, (hW.block b hbl).trans hb, Ft, hs, hD⟩
  exact keys1_in F n h10 hro hn l Bm b nn D0 J (fun pre x W h _ hl => hY pre x W h hl) W hJ ((hW.cell (p := ⟨Bm, 0, none⟩) hBm).trans hm) hown' h0
end Go.Proofs.Ytdjogfofedbohaa
end
section
/- slices.AppendSeq(nil, seq), slices.Collect(seq) at places (the worked walk of the kit, turned to structs; not clean yet). -/
namespace Go.Proofs.Ytdjogfofedbohaa
open Go.RowKit Go.Maps Go.Sort
abbrev kvs (p : Pl) : List Value := [.int .i64 p.1, .int .i64 p.2.1, .int .i64 p.2.2]
theorem info_place : (Try.prog.info? 34).map (fun i => (i.zero, i.size, i.bytes)) = some (some (.agg #[.int .i64 0, .int .i64 0, .int .i64 0]), 3, 24) := by kernel_rfl
theorem kvs_one (p : Pl) : ∀ u ∈ kvs p, u.oneCell' = true := by simp [Value.oneCell']
theorem box_cells (w : World) (p : Pl) : ∀ j u, (kvs p)[j]? = some u → (w.alloc (.cells #[.int .i64 p.1, .int .i64 p.2.1, .int .i64 p.2.2] 34)).cell? ((⟨w.heap.size, 0, none⟩ : Addr).add j) = some u := by
  intro j u h
  have e : ((⟨w.heap.size, 0, none⟩ : Addr).add j) = ⟨w.heap.size, j, none⟩ := by
    by_cases hj : j = 0 <;> simp [Addr.add, hj]
  rw [e]
  exact ((Blk.new w 34 (kvs p)).cell j).trans h
def apAssign : Code := (Code.region 2 #[{ dst := some 5, op := Op.alloc 34, type := 0, pos := "iter.go:51", after := #[], guard := none }, { dst := none, op := Op.store 34 (Operand.tmp 5) (Operand.tmp 7), type := 0, pos := "iter.go:51", after := #[{ on := 0, ground := Ground.data }, { on := 0, ground := Ground.phase }], guard := none }] false)
def apBody : Code := (Code.block 1 (Code.region 3 #[{ dst := some 8, op := Op.load 45 (Operand.tmp 2), type := 45, pos := "iter.go:52", after := #[], guard := none }, { dst := some 9, op := Op.load 34 (Operand.tmp 5), type := 34, pos := "iter.go:52", after := #[], guard := none },
  { dst := some 10, op := Op.buildSlice 45 1 #[(0, Operand.tmp 9)], type := 45, pos := "iter.go:52", after := #[{ on := 1, ground := Ground.data }], guard := none },
  { dst := some 11, op := Op.call { callee := Callee.builtin Builtin.append, args := #[Operand.tmp 8, Operand.tmp 10], argTypes := #[45, 45] }, type := 45, pos := "iter.go:52", after := #[{ on := 0, ground := Ground.data }, { on := 2, ground := Ground.data }], guard := none },
  { dst := none, op := Op.store 45 (Operand.tmp 2) (Operand.tmp 11), type := 0, pos := "iter.go:52", after := #[{ on := 3, ground := Ground.data }, { on := 3, ground := Ground.chain }, { on := 0, ground := Ground.phase }, { on := 1, ground := Ground.phase }, { on := 2, ground := Ground.phase }, { on := 3, ground := Ground.phase }], guard := none }] false))
def apRec (fn : FuncId) (sv : Value) (Bs D : Nat) (st : LoopState) (pend : Option Code) : Loop :=
  { state := st, pending := pend, fn, tmps := #[.slice none 0 0, sv, .pointer (some ⟨Bs, 0, none⟩), undef, .slice none 0 0, undef, sv, undef, undef, undef, undef, undef, undef], params := #[7], assign := apAssign, body := apBody, defers := D }
end Go.Proofs.Ytdjogfofedbohaa
end
section
/- slices.AppendSeq(nil, seq), slices.Collect(seq) at places: the kit's worked walk turned (wip/turn_collect.py). -/
namespace Go.Proofs.Ytdjogfofedbohaa
open Go.RowKit Go.Maps Go.Sort
/-- BETWEEN TWO ROUNDS: the box holds a slice that owns, in a block of the call's own, what has come so far; IT IS nil JUST AS LONG AS NOTHING HAS COME; nothing that lay before the call has turned. -/
structure ApAt (w0 : World) (fn : FuncId) (sv : Value) (Bs l D : Nat) (ss : List Pl) (W : World) : Prop where
  box : ∃ v, W.heap[Bs]? = some (.cells #[v] (45) (0, 0)) ∧ W.ownsRow w0.heap.size (34) 3 v ss.length (ss.flatMap kvs) ∧ (v = .slice none 0 0 ↔ ss = [])
  L : W.heap[l]? = some (.loop (apRec fn sv Bs D .ready none))
  K : W.heap[D]? = some (.deferred (some []))
  below : Below w0.heap.size w0 W



theorem ap_abides (w0 : World) (fn : FuncId) (sv : Value) (Bs l D B : Nat) (hB : w0.heap.size ≤ B) : AbidesFrom B (ApAt w0 fn sv Bs l D) := fun s W W' row h hg hrow => by
  have hrow' : ∀ r, row = some r → ∃ o : Obj, W.heap[r]? = some o ∧ o.isWalk = true := fun r e => (hrow r e).2
  obtain ⟨v, hv, hr, hn⟩ := h.box
  exact ⟨⟨v, (grownBy_keeps hg hrow' hv rfl).trans hv, ownsRow_abides_a hr hg hrow', hn⟩, (grownBy_keeps hg hrow' h.L rfl).trans h.L, (grownBy_keeps hg hrow' h.K rfl).trans h.K,
    h.below.grown hg h.below.size (fun k e => Nat.le_trans hB (hrow k e).1)⟩









set_option maxRecDepth 100000 in
set_option maxHeartbeats 2000000 in
theorem apYield (F : Fence) (m : Nat) (w0 : World) (fn : FuncId) (hfn : F.fn fn) (sv : Value) (Bs l D : Nat) (hBl : Bs ≠ l) (hDl : D ≠ l) (hDB : D ≠ Bs) (h0B : w0.heap.size ≤ Bs) (h0l : w0.heap.size ≤ l)
    (N : Nat) (hN : N ≤ maxLen) (hNb : N * 24 ≤ 140737488355328) (ss : List Pl) (x : Pl) (W : World) (h : ApAt w0 fn sv Bs l D ss W) (hlen : ss.length < N) :
    YieldAt F m Try.prog l #[kv x] W fun e W' => e = .returned (.bool true) ∧ ApAt w0 fn sv Bs l D (ss ++ [x]) W' ∧ KeepsWalks W W' := by
  have hne : (45 : TypeId) ≠ 34 := by decide
  obtain ⟨i0, hi, hz0, hz1, hz2⟩ := info_parts info_place
  refine ⟨fn, #[.slice none 0 0, sv, .pointer (some ⟨Bs, 0, none⟩), undef, .slice none 0 0, undef, sv, kv x, undef, undef, undef, undef, undef], apAssign, apBody, by simpa [apRec] using run_yield (P := Try.prog) (args := #[kv x]) h.L rfl, roundIn_of_wpIn hfn ?_⟩
  have hA := ap_abides w0 fn sv Bs l D W.heap.size h.below.size ss W (W.alloc (.cells #[.int .i64 x.1, .int .i64 x.2.1, .int .i64 x.2.2] 34)) none h (World.grownBy_alloc _ _ _) (fun r e => by cases e)
  have hkA : KeepsWalks W (W.alloc (.cells #[.int .i64 x.1, .int .i64 x.2.1, .int .i64 x.2.2] 34)) := KeepsWalks.alloc _ _
  have hnew := Blk.new W 34 (kvs x)
  have hszA : (W.alloc (.cells #[.int .i64 x.1, .int .i64 x.2.1, .int .i64 x.2.2] 34)).heap.size = W.heap.size + 1 := by simp
  have hbl : l ≠ W.heap.size := fun e => by have := (Array.getElem?_eq_some_iff.1 h.L).1; omega
  unfold apAssign
  gi_wp2_with gi_round_op_a
  obtain ⟨WA, hWA⟩ : ∃ WA, W.alloc (.cells #[.int .i64 x.1, .int .i64 x.2.1, .int .i64 x.2.2] 34) = WA := ⟨_, rfl⟩
  have hnew : WA.heap[W.heap.size]? = some (.cells (kvs x).toArray 34 (0, 0)) := by rw [← hWA]; exact hnew
  rw [hWA] at hA hkA hszA ⊢
  obtain ⟨v, hv, hrow, _⟩ := hA.box
  have hl : l < WA.heap.size := (Array.getElem?_eq_some_iff.1 hA.L).1
  have hbr := run_beginRound (P := Try.prog) hA.L rfl
  obtain ⟨W2, hW2⟩ : ∃ W2, WA.putObj l (.loop { apRec fn sv Bs D .ready none with state := .busy }) = W2 := ⟨_, rfl⟩
  rw [hW2] at hbr
  have hg2 : WA.grownBy W2 (some l) := by rw [← hW2]; exact grownBy_putObj_a _ _ _
  have hk2 : KeepsWalks WA W2 := by rw [← hW2]; exact KeepsWalks.putObj _ hA.L rfl
  have hv2 : W2.heap[Bs]? = some (.cells #[v] (45) (0, 0)) := by rw [← hW2]; exact (World.putObj_heap_other hBl).trans hv
  have hK2 : W2.heap[D]? = some (.deferred (some [])) := by rw [← hW2]; exact (World.putObj_heap_other hDl).trans hA.K
  have hL2 : W2.heap[l]? = some (.loop { apRec fn sv Bs D .ready none with state := .busy }) := by rw [← hW2]; exact World.putObj_heap_same hl
  have hrow2 : W2.ownsRow w0.heap.size (34) 3 v ss.length (ss.flatMap kvs) := hrow.kept hg2 (ownsRow_ne_a hrow hA.L (fun cur e => by first | cases e | exact hne (Obj.cells.inj e).2.1))
  have hb2 : Below w0.heap.size w0 W2 := hA.below.grown hg2 hA.below.size (fun k e => by cases e; exact h0l)
  obtain ⟨hc2, hf2⟩ := cell_of_box_a hv2
  have hBlt : Bs < W2.heap.size := (Array.getElem?_eq_some_iff.1 hv2).1
  have hl2 : l < W2.heap.size := (Array.getElem?_eq_some_iff.1 hL2).1
  have hDlt : D < W2.heap.size := (Array.getElem?_eq_some_iff.1 hK2).1
  have ne_of : ∀ {j : Nat} {o : Obj}, W2.heap[j]? = some o → (∀ cur, o ≠ .cells cur (34) (0, 0)) → some j ≠ v.ownBlock := fun hj hno => by
    rcases ownsRow_ne_a hrow2 hj hno with e | e
    · rw [e]; simp
    · exact fun e' => e e'.symm
  have hbx2 : Blk W2 W.heap.size 34 (kvs x) := by unfold Blk; rw [← hW2]; exact (World.putObj_heap_other hbl.symm).trans hnew
  have hx0 := hbx2.cell 0
  have hx1 := hbx2.cell 1
  have hx2 := hbx2.cell 2
  clear hW2
  refine ⟨W2, hbr, ?_⟩
  unfold apBody
  gi_wp2_with (first
    | (gi_at_builtin; refine wpListIn_append_own _ rfl _ _ (45) rfl w0.heap.size (34) i0 (.agg #[.int .i64 0, .int .i64 0, .int .i64 0]) 3 24 Try.underlying45 hi hz0 hz1 hz2 rfl (by decide) _ _ _ rfl (hrow2.alloc _) ⟨W2.heap.size, 0, none⟩ 1 1 (kvs x) rfl rfl (box_cells _ x) (kvs_one x) (by omega) (by omega) (by have := hb2.size; simp; omega) ?_; intro v' w3 hown' hg3 hnil3
       have hv3 : w3.heap[Bs]? = some (.cells #[v] (45) (0, 0)) := (hg3.block Bs (by simp; omega) (ne_of hv2 (fun cur e => by first | cases e | exact hne (Obj.cells.inj e).2.1))).trans ((Below.heap_alloc _ _ Bs hBlt).trans hv2)
       obtain ⟨hc3, hf3⟩ := cell_of_box_a hv3
       obtain ⟨g', cap', cur', rfl, hbase', hgb', hr1, hr2, hr3, hr4⟩ : ∃ g' cap' cur', v' = .slice (some ⟨g', 0, none⟩) (ss.length + 1) cap' ∧ w0.heap.size ≤ g' ∧ w3.heap[g']? = some (.cells cur' (34) (0, 0)) ∧ ss.length + 1 ≤ cap' ∧ cap' ≤ maxLen ∧ cur'.size = cap' * 3 ∧ cur'.toList.take ((ss.length + 1) * 3) = ss.flatMap kvs ++ kvs x := by
         rcases hown'.2 with ⟨_, h0⟩ | h'
         · exact absurd h0 (by omega)
         · exact h'
       go_frame)
    | gi_round_op_a)
  have hg3' : (W2.alloc (.cells #[.int .i64 x.1, .int .i64 x.2.1, .int .i64 x.2.2] (34))).grownBy w3 v.ownBlock := hg3
  have hL3 : w3.heap[l]? = some (.loop { apRec fn sv Bs D .ready none with state := .busy }) := (hg3'.block l (by simp; omega) (ne_of hL2 (fun cur e => by first | cases e | exact hne (Obj.cells.inj e).2.1))).trans ((Below.heap_alloc _ _ l hl2).trans hL2)
  have hK3 : w3.heap[D]? = some (.deferred (some [])) := (hg3'.block D (by simp; omega) (ne_of hK2 (fun cur e => by first | cases e | exact hne (Obj.cells.inj e).2.1))).trans ((Below.heap_alloc _ _ D hDlt).trans hK2)
  obtain ⟨w4, hw4⟩ : ∃ w4, w3.setCell ⟨Bs, 0, none⟩ (.slice (some ⟨g', 0, none⟩) (ss.length + 1) cap') = w4 := ⟨_, rfl⟩
  rw [hw4]
  have hg4 : w3.grownBy w4 (some Bs) := by rw [← hw4]; exact grownBy_setCell0_a _ _ _
  have hv4 : w4.heap[Bs]? = some (.cells #[.slice (some ⟨g', 0, none⟩) (ss.length + 1) cap'] (45) (0, 0)) := by rw [← hw4]; exact heap_setCell_box_a _ hv3
  have hL4 : w4.heap[l]? = some (.loop { apRec fn sv Bs D .ready none with state := .busy }) := (hg4.block l (Array.getElem?_eq_some_iff.1 hL3).1 (fun e => hBl (by cases e; rfl))).trans hL3
  have hK4 : w4.heap[D]? = some (.deferred (some [])) := (hg4.block D (Array.getElem?_eq_some_iff.1 hK3).1 (fun e => hDB (by cases e; rfl))).trans hK3
  have hrow4 := hown'.kept hg4 (ownsRow_ne_a hown' hv3 (fun cur e => by first | cases e | exact hne (Obj.cells.inj e).2.1))
  have hl4 : l < w4.heap.size := (Array.getElem?_eq_some_iff.1 hL4).1
  have hb3 : Below w0.heap.size w0 w3 := (hb2.alloc hb2.size _).grown hg3' (by have := hb2.size; simp; omega) (fun k e => (hrow2.lt k e).1)
  have hb4 : Below w0.heap.size w0 w4 := hb3.grown hg4 hb3.size (fun k e => by cases e; exact h0B)
  have hk4 : KeepsWalks W w4 := hkA.trans <| ((hk2.trans (KeepsWalks.alloc _ _)).trans (KeepsWalks.of_grownBy hg3' (ownsRow_not_walk_a (hrow2.alloc _)))).trans (by rw [← hw4]; exact KeepsWalks.setCell _ _ _)
  clear hw4
  refine ⟨_, _, run_endRound none hL4, rfl, ⟨⟨_, (World.putObj_heap_other hBl).trans hv4, ?_, by simp⟩, World.putObj_heap_same hl4, (World.putObj_heap_other hDl).trans hK4, hb4.grown (grownBy_putObj_a _ _ _) hb4.size (fun k e => by cases e; exact h0l)⟩, hk4.trans (KeepsWalks.putObj _ hL4 rfl)⟩
  have := hrow4.kept (grownBy_putObj_a w4 l (.loop { { apRec fn sv Bs D .ready none with state := .busy } with state := if (none : Option Code).isNone then .ready else .done, pending := none })) (ownsRow_ne_a hrow4 hL4 (fun cur e => by first | cases e | exact hne (Obj.cells.inj e).2.1))
  simpa using this


set_option maxRecDepth 100000 in
set_option maxHeartbeats 2000000 in
/-- **slices.AppendSeq(nil, seq), AGAINST WHATEVER ITERATOR VALUE THAT 'SeqGives'**: it hands back a slice that owns, in a block of the call's own, JUST WHAT THE ITERATOR GAVE, IN THAT ORDER; nil JUST WHERE IT GAVE NOTHING (as Go: 'slices.Collect' of nothing is nil); nothing that lay before the call has turned. -/
theorem appendSeq_in (F : Fence) (n : Nat) (h11 : F.fn 112) (hro : F.round = none) (hn : 2 ≤ n) (g : Nat) (lb : Array Value) (hFg : F.fn g) (eg : ∀ args w, (callFunc g args).run Try.prog w = .ok (.enter g args) w)
    (S : List Pl → Prop) (N : Nat) (hN : N ≤ maxLen) (hNb : N * 24 ≤ 140737488355328) (w : World) (hseq : SeqGives F (n - 1) Try.prog g lb kv S N w) :
    CallsIn F n Try.prog 112 #[.slice none 0 0, .func (.func g) #[] lb] w fun e w' => ∃ (v : Value) (ss : List Pl), e = .returned v ∧ S ss ∧ w'.ownsRow w.heap.size (34) 3 v ss.length (ss.flatMap kvs) ∧ (v = .slice none 0 0 ↔ ss = []) ∧ Below w.heap.size w w' := by
  have h1 : 1 ≤ n := by omega
  have hne : (45 : TypeId) ≠ 34 := by decide
  refine callsIn_of_wp_marks Try.func112 rfl h11 ?_ hro
  simp only [Try.ntmps112, List.size_toArray, List.length_cons, List.length_nil, Nat.reduceAdd, Nat.reduceSub, Array.replicate_succ, Array.replicate_zero, List.push_toArray, List.append_toArray, List.nil_append, List.cons_append]
  gi_wp2
  refine wpIn_rangeFunc ?_
  intro fn hfn
  rw [hro]
  obtain ⟨W0, hW0⟩ : ∃ W0, w.alloc (.cells #[.slice none 0 0] (45)) = W0 := ⟨_, rfl⟩
  have hs0 : W0.heap.size = w.heap.size + 1 := by rw [← hW0]; simp
  have hv0 : W0.heap[w.heap.size]? = some (.cells #[.slice none 0 0] (45) (0, 0)) := by rw [← hW0]; exact World.alloc_heap_new w _
  have hb0 : Below w.heap.size w W0 := by rw [← hW0]; exact (Below.refl _ w).alloc (Nat.le_refl _) _
  rw [hW0]
  obtain ⟨W1, hW1⟩ : ∃ W1, (W0.alloc (.deferred (some []))).alloc (.loop (apRec fn (.func (.func g) #[] lb) w.heap.size W0.heap.size .ready none)) = W1 := ⟨_, rfl⟩
  have hold : ∀ k, k < W0.heap.size → W1.heap[k]? = W0.heap[k]? := fun k hk => by
    rw [← hW1]; exact (Below.heap_alloc _ _ k (by simp; omega)).trans (Below.heap_alloc _ _ k hk)
  have hb1 : Below w.heap.size w W1 := by rw [← hW1]; exact (hb0.alloc hb0.size _).alloc (by have := hb0.size; simp; omega) _
  have hs1 : W1.heap.size = W0.heap.size + 2 := by rw [← hW1]; simp
  have hM : ApAt w fn (.func (.func g) #[] lb) w.heap.size (W0.heap.size + 1) W0.heap.size [] W1 :=
    ⟨⟨_, (hold w.heap.size (by omega)).trans hv0, ⟨rfl, .inl ⟨rfl, rfl⟩⟩, by simp⟩,
     by rw [← hW1]; have := World.alloc_heap_new (W0.alloc (.deferred (some []))) (.loop (apRec fn (.func (.func g) #[] lb) w.heap.size W0.heap.size .ready none)); rwa [World.size_alloc] at this,
     by rw [← hW1]; exact (Below.heap_alloc _ _ _ (by simp)).trans (World.alloc_heap_new W0 _), hb1⟩
  refine ⟨W0.heap.size + 1, [{ target := .collected W0.heap.size, args := #[] }], W1, { target := .fn (.func g) lb, args := #[.func (.yield (W0.heap.size + 1)) #[] #[]] }, W1, g,
    #[.func (.yield (W0.heap.size + 1)) #[] #[]] ++ lb, W1, ?_, ?_, ?_, ?_, fun _ => h1, ?_⟩
  · rw [← hW1]; exact run_enterLoop_outer _ _ _ _ _
  · simp [resolve, go_sem]
  · intro f' hf'; simp [Target.leads] at hf'; subst hf'; exact hFg
  · simp [invoke, go_sem, eg]
  · refine (hseq (W0.heap.size + 1) (ApAt w fn (.func (.func g) #[] lb) w.heap.size (W0.heap.size + 1) W0.heap.size) W1 hb1 (ap_abides _ _ _ _ _ _ _ hb1.size)
      (fun pre x W hJ hl => apYield F (n - 1 - 1) w fn hfn _ w.heap.size (W0.heap.size + 1) W0.heap.size (by omega) (by omega) (by omega) (Nat.le_refl _) (by omega) N hN hNb pre x W hJ hl) hM).mono ?_
    rintro e W2 ⟨⟨v0, rfl⟩, ss, hS, h2⟩
    obtain ⟨v, hv, hrow, hnil⟩ := h2.box
    have hend := run_endLoop (P := Try.prog) h2.L (by simp [apRec])
    obtain ⟨W3, hW3⟩ : ∃ W3, W2.putObj (W0.heap.size + 1) (.loop { apRec fn (.func (.func g) #[] lb) w.heap.size W0.heap.size .ready none with state := .exhausted }) = W3 := ⟨_, rfl⟩
    rw [hW3] at hend
    have hg3 : W2.grownBy W3 (some (W0.heap.size + 1)) := by rw [← hW3]; exact grownBy_putObj_a _ _ _
    have hv3 : W3.heap[w.heap.size]? = some (.cells #[v] (45) (0, 0)) := by rw [← hW3]; exact (World.putObj_heap_other (by omega)).trans hv
    have hK3 : W3.heap[W0.heap.size]? = some (.deferred (some [])) := by rw [← hW3]; exact (World.putObj_heap_other (by omega)).trans h2.K
    have hrow3 := hrow.kept hg3 (ownsRow_ne_a hrow h2.L (fun cur e => by first | cases e | exact hne (Obj.cells.inj e).2.1))
    have hb3 : Below w.heap.size w W3 := h2.below.grown hg3 h2.below.size (fun k e => by cases e; omega)
    obtain ⟨hc3, hf3⟩ := cell_of_box_a hv3
    clear hW3
    refine ⟨none, W3, hend, ?_⟩
    gi_wp2
    rw [← hs0]
    refine ⟨by simp, .inl ⟨_, _, rfl, run_takeDeferred hK3, ?_⟩⟩
    exact ⟨_, results_tmp rfl _ _ _, v, ss, rfl, hS, hrow3.kept (grownBy_putObj_a _ _ _) (ownsRow_ne_a hrow3 hK3 (fun cur e => by first | cases e | exact hne (Obj.cells.inj e).2.1)), hnil, hb3.grown (grownBy_putObj_a _ _ _) hb3.size (fun k e => by cases e; omega)⟩


set_option maxHeartbeats 1000000 in
/-- **slices.Collect(seq), AGAINST WHATEVER ITERATOR VALUE.** -/
theorem collect_in (F : Fence) (n : Nat) (h8 : F.fn 91) (h11 : F.fn 112) (hro : F.round = none) (hn : 3 ≤ n) (g : Nat) (lb : Array Value) (hFg : F.fn g) (eg : ∀ args w, (callFunc g args).run Try.prog w = .ok (.enter g args) w)
    (S : List Pl → Prop) (N : Nat) (hN : N ≤ maxLen) (hNb : N * 24 ≤ 140737488355328) (w : World) (hseq : SeqGives F (n - 1 - 1) Try.prog g lb kv S N w) :
    CallsIn F n Try.prog 91 #[.func (.func g) #[] lb] w fun e w' => ∃ (v : Value) (ss : List Pl), e = .returned v ∧ S ss ∧ w'.ownsRow w.heap.size (34) 3 v ss.length (ss.flatMap kvs) ∧ (v = .slice none 0 0 ↔ ss = []) ∧ Below w.heap.size w w' := by
  have h1 : 1 ≤ n := by omega
  refine callsIn_of_wp Try.func91 rfl h8 ?_ hro
  simp only [Try.ntmps91, List.size_toArray, List.length_cons, List.length_nil, Nat.reduceAdd, Nat.reduceSub, Array.replicate_succ, Array.replicate_zero, List.push_toArray, List.append_toArray, List.nil_append, List.cons_append]
  gi_wp2_with fail
  refine (appendSeq_in F (n - 1) h11 hro (by omega) g lb hFg eg S N hN hNb _ hseq).mono ?_
  rintro e w' ⟨v, ss, rfl, hS, hrow, hnil, hb⟩
  gi_wp2
  go_ret
  exact ⟨v, ss, rfl, hS, hrow, hnil, hb⟩



end Go.Proofs.Ytdjogfofedbohaa
end
section
/- slices.SortFunc at places: the shelf's contract, laid at this program. -/
namespace Go.Proofs.Ytdjogfofedbohaa
open Go.Shelf Go.RowKit Go.Lib Go.Sort

def sortP_ren : Go.Shelf.Ren := ⟨fun | 6 => 92 | 15 => 114 | 14 => 113 | 28 => 136 | 29 => 137 | 20 => 128 | 21 => 129 | 22 => 130 | 23 => 131 | 24 => 132 | 25 => 133 | 26 => 134 | 27 => 135 | 46 => 142 | 47 => 143 | 48 => 144 | 49 => 145 | 50 => 146 | 57 => 148 | n => n, fun | 22 => 45 | 24 => 34 | 25 => 121 | 3 => 3 | 39 => 91 | 0 => 0 | 53 => 211 | 55 => 35 | 4 => 4 | 46 => 205 | 45 => 204 | 50 => 195 | 5 => 5 | 9 => 9 | 66 => 214 | 70 => 217 | 76 => 219 | 77 => 220 | n => n, fun n => n⟩
set_option maxRecDepth 100000 in
theorem sortP_laid : SlLaysF0.n6 Try.prog sortP_ren := {
  mixed := by kernel_rfl
  f6 := ⟨Try.f92.name, by decide, Try.func92.trans (congrArg some (by kernel_rfl))⟩
  f14 := ⟨Try.f113.name, by decide, Try.func113.trans (congrArg some (by kernel_rfl))⟩
  f15 := Try.func114.trans (congrArg some (by kernel_rfl))
  f20 := ⟨Try.f128.name, by decide, Try.func128.trans (congrArg some (by kernel_rfl))⟩
  f21 := ⟨Try.f129.name, by decide, Try.func129.trans (congrArg some (by kernel_rfl))⟩
  f22 := ⟨Try.f130.name, by decide, Try.func130.trans (congrArg some (by kernel_rfl))⟩
  f23 := ⟨Try.f131.name, by decide, Try.func131.trans (congrArg some (by kernel_rfl))⟩
  f24 := ⟨Try.f132.name, by decide, Try.func132.trans (congrArg some (by kernel_rfl))⟩
  f25 := ⟨Try.f133.name, by decide, Try.func133.trans (congrArg some (by kernel_rfl))⟩
  f26 := ⟨Try.f134.name, by decide, Try.func134.trans (congrArg some (by kernel_rfl))⟩
  f27 := ⟨Try.f135.name, by decide, Try.func135.trans (congrArg some (by kernel_rfl))⟩
  f28 := Try.func136.trans (congrArg some (by kernel_rfl))
  f29 := Try.func137.trans (congrArg some (by kernel_rfl))
  f46 := ⟨Try.f142.name, by decide, Try.func142.trans (congrArg some (by kernel_rfl))⟩
  f47 := Try.func143.trans (congrArg some (by kernel_rfl))
  f48 := Try.func144.trans (congrArg some (by kernel_rfl))
  f49 := ⟨Try.f145.name, by decide, Try.func145.trans (congrArg some (by kernel_rfl))⟩
  f50 := ⟨Try.f146.name, by decide, Try.func146.trans (congrArg some (by kernel_rfl))⟩
  f57 := ⟨Try.f148.name, by decide, Try.func148.trans (congrArg some (by kernel_rfl))⟩
  t0 := Try.underlying0
  a0 := Try.isAgg0
  z0 := Try.sizeOf0
  v0 := Try.zeroValue0
  t3 := Try.underlying3
  a3 := Try.isAgg3
  z3 := Try.sizeOf3
  v3 := Try.zeroValue3
  t4 := Try.underlying4
  a4 := Try.isAgg4
  z4 := Try.sizeOf4
  v4 := Try.zeroValue4
  t5 := Try.underlying5
  a5 := Try.isAgg5
  z5 := Try.sizeOf5
  v5 := Try.zeroValue5
  t9 := Try.underlying9
  a9 := Try.isAgg9
  z9 := Try.sizeOf9
  v9 := Try.zeroValue9
  t22 := Try.underlying45
  a22 := Try.isAgg45
  z22 := Try.sizeOf45
  v22 := Try.zeroValue45
  t25 := Try.underlying121
  a25 := Try.isAgg121
  z25 := Try.sizeOf121
  v25 := Try.zeroValue121
  t39 := Try.underlying91
  a39 := Try.isAgg91
  z39 := Try.sizeOf91
  v39 := Try.zeroValue91
  t45 := Try.underlying204
  a45 := Try.isAgg204
  z45 := Try.sizeOf204
  v45 := Try.zeroValue204
  t46 := Try.underlying205
  a46 := Try.isAgg205
  z46 := Try.sizeOf205
  v46 := Try.zeroValue205
  t50 := Try.underlying195
  a50 := Try.isAgg195
  z50 := Try.sizeOf195
  v50 := Try.zeroValue195
  t53 := Try.underlying211
  a53 := Try.isAgg211
  z53 := Try.sizeOf211
  v53 := Try.zeroValue211
  t55 := Try.underlying35
  a55 := Try.isAgg35
  z55 := Try.sizeOf35
  v55 := Try.zeroValue35
  t66 := Try.underlying214
  a66 := Try.isAgg214
  z66 := Try.sizeOf214
  v66 := Try.zeroValue214
  t70 := Try.underlying217
  a70 := Try.isAgg217
  z70 := Try.sizeOf217
  v70 := Try.zeroValue217
  t76 := Try.underlying219
  a76 := Try.isAgg219
  z76 := Try.sizeOf219
  v76 := Try.zeroValue219
  t77 := Try.underlying220
  a77 := Try.isAgg220
  z77 := Try.sizeOf220
  v77 := Try.zeroValue220 }
end Go.Proofs.Ytdjogfofedbohaa
end
section
/- Laws on slices of structs that a call made itself: copy out of such a slice into a row. No condition. -/
namespace Go.Proofs.Ytdjogfofedbohaa
open Go.RowKit

section
variable {P : Program}
theorem run_copy_owned (w : World) (dT sT ty elem : TypeId) (g dLen dCap : Nat) (v : Value) (n sz base : Nat) (e : TypeId) (xs cur : List Value) (t : TypeId)
    (hown : w.ownsRow base e sz v n xs) (hu : P.underlying dT = some (.slice elem)) (hs : (P.info? elem).map (·.size) = some sz)
    (hg : Blk w g t cur) (hn : n ≤ dLen) (hfit : xs.length ≤ cur.length) (h1 : ∀ u ∈ xs, u.oneCell' = true) :
    ∃ w', (Builtin.copy_ #[dT, sT] ty #[.slice (some ⟨g, 0, none⟩) dLen dCap, v]).run P w = .ok (goInt n) w' ∧ Blk w' g t (xs ++ cur.drop xs.length) ∧ w.grownBy w' (some g) := by
  cases hq : P.info? elem with
  | none => simp [hq] at hs
  | some i =>
    have hi : i.size = sz := by simpa [hq] using hs
    rcases hown.2 with ⟨rfl, rfl⟩ | ⟨g', cap, cur', rfl, _, hg', hnc, _, hsz, htake⟩
    · have hx : xs = [] := List.eq_nil_of_length_eq_zero (by simpa using hown.1)
      subst hx
      refine ⟨w, ?_, by simpa using hg, World.grownBy.refl _ _⟩
      simp [Builtin.copy_, run_underlying hu, Builtin.lenOf, Builtin.firstCells, sizeOf, typeInfo, hq, storeCells]
    · have hl := run_loadCells_list (P := P) w ⟨g', 0, none⟩ xs (hown.cells (g := g') rfl)
      have hst := run_storeCells_at P g 0 t xs 0 cur.toArray w hg (by simpa using hfit) h1
      refine ⟨_, ?_, setRow_heap w g _ _ t _ hg, ?_⟩
      · have hmin : Nat.min n dLen = n := Nat.min_eq_left hn
        have hlen := hown.1
        simp [Builtin.copy_, run_underlying hu, Builtin.lenOf, Builtin.firstCells, sizeOf, typeInfo, hq, hi, hmin, ← hlen, hl, hst]
      · exact ⟨rfl, rfl, rfl, by simp, fun k _ hk => setRow_other w g k _ (fun e => hk (by rw [e]))⟩

theorem wpList_copy_owned {w : World} {ops : Array Oper} {rest : List Oper} {o : Oper} {a : Act} {Q : Exit → Act → World → Prop} (hgd : o.guard = none) (d s : Operand) (dT sT : TypeId)
    (ho : o.op = .call { callee := .builtin .copy, args := #[d, s], argTypes := #[dT, sT] }) (elem : TypeId) (hu : P.underlying dT = some (.slice elem)) (sz : Nat) (hs : (P.info? elem).map (·.size) = some sz)
    (g dLen dCap : Nat) (v : Value) (hd : a.eval d = .slice (some ⟨g, 0, none⟩) dLen dCap) (hv : a.eval s = v) (n base : Nat) (e : TypeId) (xs cur : List Value) (t : TypeId)
    (hown : w.ownsRow base e sz v n xs) (hg : Blk w g t cur) (hn : n ≤ dLen) (hfit : xs.length ≤ cur.length) (h1 : ∀ u ∈ xs, u.oneCell' = true)
    (h : ∀ w', Blk w' g t (xs ++ cur.drop xs.length) → w.grownBy w' (some g) → wpList P ops Q rest (a.put o.dst (goInt n)) w') : wpList P ops Q (o :: rest) a w := by
  refine wpList_plain hgd fun K hK => ?_
  obtain ⟨w', hrun, hb, hgr⟩ := run_copy_owned (P := P) w dT sT o.type elem g dLen dCap v n sz base e xs cur t hown hu hs hg hn hfit h1
  unfold Oper.wp
  simp [execOp, ho, resolve, invoke, builtin, hd, hv, hrun, Result.andThen]
  exact hK _ _ (h w' hb hgr)
end

theorem Blk.of_own {w : World} {base e sz g n : Nat} {xs : List Value} (h : w.ownsRow base e sz (.slice (some ⟨g, 0, none⟩) n n) n xs) : Blk w g e xs ∧ base ≤ g := by
  rcases h.2 with ⟨h0, _⟩ | ⟨g', cap, cur, hv, hb, hg, _, _, hs, ht⟩
  · cases h0
  · injection hv with h1 _ h3
    injection h1 with h1
    injection h1 with h1
    subst h1
    subst h3
    refine ⟨?_, hb⟩
    unfold Blk
    rw [hg, ← ht, ← hs, ← Array.length_toList, List.take_length]

theorem made_flat {α : Type} {enc : α → List Value} {sz : Nat} (h : ∀ a, (enc a).length = sz) (hp : 0 < sz) (z : Array Value) (x : α) (hz : z.toList = enc x) (n : Nat) :
    (madeCells z (n * sz)).toList = flat enc (List.replicate n x) := by
  have hzs : z.size = sz := by rw [← Array.length_toList, hz, h]
  have hl := flat_length h (List.replicate n x)
  rw [List.length_replicate] at hl
  apply List.ext_getElem?
  intro k
  rcases Nat.lt_or_ge k (n * sz) with hk | hk
  · have hj := Nat.mod_lt k hp
    have hi : k / sz < n := Nat.div_lt_of_lt_mul (by rw [Nat.mul_comm]; exact hk)
    have hf := flat_get h (List.replicate n x) (k / sz) (k % sz) hj
    rw [Nat.div_add_mod' k sz] at hf
    rw [hf]
    have hjz : k % sz < z.size := by omega
    simp only [madeCells, hzs, Array.toList_map, Array.toList_range, List.getElem?_map, List.getElem?_range hk, Option.map_some, List.getElem?_replicate, if_pos hi, Option.bind_some, ← hz, Array.getElem?_toList]
    rw [Array.getElem?_eq_getElem hjz, getElem!_pos z (k % sz) hjz]
  · rw [List.getElem?_eq_none (by simpa [madeCells] using hk), List.getElem?_eq_none (by omega)]

theorem Blk.new' {g : Nat} (w : World) (t : TypeId) (cs : List Value) (h : g = w.heap.size) : Blk (w.alloc (.cells cs.toArray t)) g t cs := by
  subst h
  exact Blk.new w t cs

theorem own_form {w : World} {base e sz n : Nat} {v : Value} {xs : List Value} (h : w.ownsRow base e sz v n xs) : ∃ A c, v = .slice A n c := by
  rcases h.2 with ⟨rfl, rfl⟩ | ⟨g, cap, cur, rfl, _⟩
  · exact ⟨none, 0, rfl⟩
  · exact ⟨_, _, rfl⟩

/-- A slice value of address A reads as these cells, from place o of block b on. -/
def Rd (w : World) (b o : Nat) (A : Option Addr) (cells : List Value) : Prop := ∀ j u, cells[j]? = some u → A = some ⟨b, o, none⟩ ∧ w.cell? ⟨b, o + j, none⟩ = some u
theorem Rd.mod {S : List Nat} {w w' : World} {b o : Nat} {A : Option Addr} {cs : List Value} (h : Rd w b o A cs) (hm : Mod S w w') (hb : cs ≠ [] → b ∉ S) : Rd w' b o A cs := fun j u hj =>
  ⟨(h j u hj).1, (hm.cell (p := ⟨b, o + j, none⟩) (World.block_lt_of_cell? w _ (h j u hj).2) (hb (fun e => by subst e; cases hj))).trans (h j u hj).2⟩
theorem Rd.lt {w : World} {b o : Nat} {A : Option Addr} {cs : List Value} (h : Rd w b o A cs) (hn : cs ≠ []) : b < w.heap.size := by
  obtain ⟨x, l, rfl⟩ := List.exists_cons_of_ne_nil hn
  exact World.block_lt_of_cell? w _ (h 0 x rfl).2

theorem Rd.of_own {w : World} {base e sz n c : Nat} {A : Option Addr} {cs : List Value} (h : w.ownsRow base e sz (.slice A n c) n cs) : ∃ b, Rd w b 0 A cs ∧ (cs ≠ [] → base ≤ b) := by
  rcases h.2 with ⟨h0, hn⟩ | ⟨g, cap, cur, hv, hb, hg, r⟩
  · refine ⟨0, fun j u hj => ?_, fun hne => ?_⟩
    · have hx : cs = [] := List.eq_nil_of_length_eq_zero (by rw [h.1, hn]; simp)
      subst hx
      cases hj
    · exact absurd (List.eq_nil_of_length_eq_zero (by rw [h.1, hn]; simp)) hne
  · injection hv with hA
    subst hA
    refine ⟨g, fun j u hj => ⟨rfl, ?_⟩, fun _ => hb⟩
    have := h.cells (g := g) rfl j u hj
    rw [← this]
    unfold Addr.add
    split <;> simp_all

section
variable {P : Program}
/-- append onto a row of the call's own, from a row that is known whole (nil let in). -/
theorem run_append_owned (w : World) (t ty base e : TypeId) (i : TypeInfo) (z : Value) (size bytes : Nat) (ht : P.underlying t = some (.slice e)) (hi : P.info? e = some i) (hz : i.zero = some z)
    (hsize : i.size = size) (hby : i.bytes = bytes) (hzs : z.cells.size = size) (hsz : 0 < size)
    (v : Value) (n : Nat) (xs : List Value) (hown : w.ownsRow base e size v n xs)
    (s : Value) (m base' e' : Nat) (ys : List Value) (hs : w.ownsRow base' e' size s m ys) (h1 : ∀ u ∈ ys, u.oneCell' = true)
    (h63 : n + m ≤ maxLen) (hbytes : (n + m) * bytes ≤ 140737488355328) (hbase : base ≤ w.heap.size) :
    ∃ A c w', (Builtin.append_ #[t, t] ty #[v, s]).run P w = .ok (.slice A (n + m) c) w' ∧ w'.ownsRow base e size (.slice A (n + m) c) (n + m) (xs ++ ys) ∧ w.grownBy w' v.ownBlock ∧
      ((Value.slice A (n + m) c).ownBlock = v.ownBlock ∨ (Value.slice A (n + m) c).ownBlock = some w.heap.size) := by
  rcases hs.2 with ⟨rfl, rfl⟩ | ⟨g, cap, cur, rfl, _, _, _⟩
  · have hx : ys = [] := List.eq_nil_of_length_eq_zero (by simpa using hs.1)
    subst hx
    obtain ⟨A, c, rfl⟩ := own_form hown
    exact ⟨A, c, w, run_append_owned_none (P := P) w base t ty e i size ht hi _ n xs hown, by simpa using hown, World.grownBy.refl _ _, .inl rfl⟩
  · obtain ⟨v', w', hrun, h2, h3, _, h5⟩ := run_append_own_at (P := P) w base t ty e i z size bytes ht hi hz hsize hby hzs hsz v n xs hown ⟨g, 0, none⟩ m cap ys hs.1 (hs.cells rfl) h1 h63 hbytes hbase
    obtain ⟨A, c, rfl⟩ := own_form h2
    exact ⟨A, c, w', hrun, h2, h3, h5⟩

theorem wp_append_owned {w : World} {o : Oper} {a : Act} {K : Act → World → Prop} {Q : Exit → Act → World → Prop} (s x : Operand) (t : TypeId)
    (ho : o.op = .call { callee := .builtin .append, args := #[s, x], argTypes := #[t, t] })
    (base e : TypeId) (i : TypeInfo) (z : Value) (size bytes : Nat) (ht : P.underlying t = some (.slice e)) (hi : P.info? e = some i) (hz : i.zero = some z)
    (hsize : i.size = size) (hby : i.bytes = bytes) (hzs : z.cells.size = size) (hsz : 0 < size)
    (v : Value) (n : Nat) (xs : List Value) (hv : a.eval s = v) (hown : w.ownsRow base e size v n xs)
    (y : Value) (m base' e' : Nat) (ys : List Value) (hy : a.eval x = y) (hs : w.ownsRow base' e' size y m ys) (h1 : ∀ u ∈ ys, u.oneCell' = true)
    (h63 : n + m ≤ maxLen) (hbytes : (n + m) * bytes ≤ 140737488355328) (hbase : base ≤ w.heap.size)
    (h : ∀ A c w', w'.ownsRow base e size (.slice A (n + m) c) (n + m) (xs ++ ys) → w.grownBy w' v.ownBlock → ((Value.slice A (n + m) c).ownBlock = v.ownBlock ∨ (Value.slice A (n + m) c).ownBlock = some w.heap.size) → K (a.put o.dst (.slice A (n + m) c)) w') : o.wp P a w K Q := by
  obtain ⟨A, c, w', hr, h2, h3, h4⟩ := run_append_owned (P := P) w t o.type base e i z size bytes ht hi hz hsize hby hzs hsz v n xs hown y m base' e' ys hs h1 h63 hbytes hbase
  unfold Oper.wp execOp
  simp only [ho, resolve, invoke, builtin, Sem.run_bind, Sem.run_pure, Result.andThen_ok, List.map_toArray, List.map_cons, List.map_nil, hv, hy, hr]
  exact h A c w' h2 h3 h4

theorem wpList_append_owned {w : World} {ops : Array Oper} {rest : List Oper} {o : Oper} {a : Act} {Q : Exit → Act → World → Prop} (hgd : o.guard = none) (s x : Operand) (t : TypeId)
    (ho : o.op = .call { callee := .builtin .append, args := #[s, x], argTypes := #[t, t] })
    (base e : TypeId) (i : TypeInfo) (z : Value) (size bytes : Nat) (ht : P.underlying t = some (.slice e)) (hi : P.info? e = some i) (hz : i.zero = some z)
    (hsize : i.size = size) (hby : i.bytes = bytes) (hzs : z.cells.size = size) (hsz : 0 < size)
    (v : Value) (n : Nat) (xs : List Value) (hv : a.eval s = v) (hown : w.ownsRow base e size v n xs)
    (y : Value) (m base' e' : Nat) (ys : List Value) (hy : a.eval x = y) (hs : w.ownsRow base' e' size y m ys) (h1 : ∀ u ∈ ys, u.oneCell' = true)
    (h63 : n + m ≤ maxLen) (hbytes : (n + m) * bytes ≤ 140737488355328) (hbase : base ≤ w.heap.size)
    (h : ∀ A c w', w'.ownsRow base e size (.slice A (n + m) c) (n + m) (xs ++ ys) → w.grownBy w' v.ownBlock → ((Value.slice A (n + m) c).ownBlock = v.ownBlock ∨ (Value.slice A (n + m) c).ownBlock = some w.heap.size) → wpList P ops Q rest (a.put o.dst (.slice A (n + m) c)) w') : wpList P ops Q (o :: rest) a w :=
  wpList_plain hgd fun _ hK => wp_append_owned s x t ho base e i z size bytes ht hi hz hsize hby hzs hsz v n xs hv hown y m base' e' ys hy hs h1 h63 hbytes hbase fun A c w' h2 h3 h4 => hK _ _ (h A c w' h2 h3 h4)

theorem step_append_owned {w : World} {ops : Array Oper} {o : Oper} {a : Act} {K : Act → World → Prop} {Q : Exit → Act → World → Prop} {E : Prop} (hgd : o.guard = none) (s x : Operand) (t : TypeId)
    (ho : o.op = .call { callee := .builtin .append, args := #[s, x], argTypes := #[t, t] })
    (base e : TypeId) (i : TypeInfo) (z : Value) (size bytes : Nat) (ht : P.underlying t = some (.slice e)) (hi : P.info? e = some i) (hz : i.zero = some z)
    (hsize : i.size = size) (hby : i.bytes = bytes) (hzs : z.cells.size = size) (hsz : 0 < size)
    (v : Value) (n : Nat) (xs : List Value) (hv : a.eval s = v) (hown : w.ownsRow base e size v n xs)
    (y : Value) (m base' e' : Nat) (ys : List Value) (hy : a.eval x = y) (hs : w.ownsRow base' e' size y m ys) (h1 : ∀ u ∈ ys, u.oneCell' = true)
    (h63 : n + m ≤ maxLen) (hbytes : (n + m) * bytes ≤ 140737488355328) (hbase : base ≤ w.heap.size)
    (h : ∀ A c w', w'.ownsRow base e size (.slice A (n + m) c) (n + m) (xs ++ ys) → w.grownBy w' v.ownBlock → ((Value.slice A (n + m) c).ownBlock = v.ownBlock ∨ (Value.slice A (n + m) c).ownBlock = some w.heap.size) → K (a.put o.dst (.slice A (n + m) c)) w') :
    if Region.wanted o (yielded ops a.tmps) = true then Oper.wp P o a w K Q else E := by
  have hw : Region.wanted o (yielded ops a.tmps) = true := by simp [Region.wanted, hgd]
  rw [if_pos hw]
  exact wp_append_owned s x t ho base e i z size bytes ht hi hz hsize hby hzs hsz v n xs hv hown y m base' e' ys hy hs h1 h63 hbytes hbase h

theorem ownsRow_base {w : World} {base base' e sz n : Nat} {v : Value} {xs : List Value} (h : w.ownsRow base e sz v n xs) (hb : base' ≤ base) : w.ownsRow base' e sz v n xs := by
  refine ⟨h.1, ?_⟩
  rcases h.2 with h0 | ⟨g, cap, cur, hv, hg, r⟩
  · exact .inl h0
  · exact .inr ⟨g, cap, cur, hv, Nat.le_trans hb hg, r⟩

/-- append([]T{}, s...): a copy. -/
theorem run_append_clone (w : World) (t ty base e : TypeId) (i : TypeInfo) (z : Value) (size bytes : Nat) (ht : P.underlying t = some (.slice e)) (hi : P.info? e = some i) (hz : i.zero = some z)
    (hsize : i.size = size) (hby : i.bytes = bytes) (hzs : z.cells.size = size) (hsz : 0 < size)
    (g : Nat) (hown : w.ownsRow base e size (.slice (some ⟨g, 0, none⟩) 0 0) 0 [])
    (s : Value) (m base' e' : Nat) (ys : List Value) (hs : w.ownsRow base' e' size s m ys) (h1 : ∀ u ∈ ys, u.oneCell' = true)
    (h63 : m ≤ maxLen) (hbytes : m * bytes ≤ 140737488355328) (hbase : base ≤ w.heap.size) :
    ∃ A c w', (Builtin.append_ #[t, t] ty #[.slice (some ⟨g, 0, none⟩) 0 0, s]).run P w = .ok (.slice A m c) w' ∧ w'.ownsRow base e size (.slice A m c) m ys ∧ w.grownBy w' none := by
  rcases hs.2 with ⟨rfl, rfl⟩ | ⟨g', cap, cur, rfl, _, _, _⟩
  · have hx : ys = [] := List.eq_nil_of_length_eq_zero (by simpa using hs.1)
    subst hx
    exact ⟨_, _, w, run_append_owned_none (P := P) w base t ty e i size ht hi _ 0 [] hown, hown, World.grownBy.refl _ _⟩
  · rcases Nat.eq_zero_or_pos m with hm | hm
    · subst hm
      have hx : ys = [] := List.eq_nil_of_length_eq_zero (by simpa using hs.1)
      subst hx
      obtain ⟨hb, _⟩ := Blk.of_own hown
      have hr := run_append_room (P := P) w t ty e i ht hi g 0 0 #[] hb ⟨g', 0, none⟩ 0 cap [] (by simp) (by simp) (by simp) (by omega) (by simp)
      refine ⟨_, _, w, ?_, hown, World.grownBy.refl _ _⟩
      rw [hr]
      simp [setRow_self w g #[] e (0, 0) hb]
    · obtain ⟨v', w', hrun, h2, h3⟩ := run_append_arg_grows (P := P) w t ty e i z size bytes ht hi hz hsize hby hzs hsz ⟨g, 0, none⟩ 0 0 [] (by simp) (by simp) ⟨g', 0, none⟩ m cap ys hs.1 (hs.cells rfl) (by omega) (by omega) (by rw [Nat.zero_add]; exact hbytes)
      rw [Nat.zero_add] at h2
      obtain ⟨A, c, rfl⟩ := own_form h2
      exact ⟨A, c, w', hrun, ownsRow_base (by simpa using h2) hbase, h3⟩

theorem wpList_append_clone {w : World} {ops : Array Oper} {rest : List Oper} {o : Oper} {a : Act} {Q : Exit → Act → World → Prop} (hgd : o.guard = none) (s x : Operand) (t : TypeId)
    (ho : o.op = .call { callee := .builtin .append, args := #[s, x], argTypes := #[t, t] })
    (base e : TypeId) (i : TypeInfo) (z : Value) (size bytes : Nat) (ht : P.underlying t = some (.slice e)) (hi : P.info? e = some i) (hz : i.zero = some z)
    (hsize : i.size = size) (hby : i.bytes = bytes) (hzs : z.cells.size = size) (hsz : 0 < size)
    (g : Nat) (hv : a.eval s = .slice (some ⟨g, 0, none⟩) 0 0) (hown : w.ownsRow base e size (.slice (some ⟨g, 0, none⟩) 0 0) 0 [])
    (y : Value) (m base' e' : Nat) (ys : List Value) (hy : a.eval x = y) (hs : w.ownsRow base' e' size y m ys) (h1 : ∀ u ∈ ys, u.oneCell' = true)
    (h63 : m ≤ maxLen) (hbytes : m * bytes ≤ 140737488355328) (hbase : base ≤ w.heap.size)
    (h : ∀ A c w', w'.ownsRow base e size (.slice A m c) m ys → w.grownBy w' none → wpList P ops Q rest (a.put o.dst (.slice A m c)) w') : wpList P ops Q (o :: rest) a w := by
  refine wpList_plain hgd fun K hK => ?_
  obtain ⟨A, c, w', hr, h2, h3⟩ := run_append_clone (P := P) w t o.type base e i z size bytes ht hi hz hsize hby hzs hsz g hown y m base' e' ys hs h1 h63 hbytes hbase
  unfold Oper.wp execOp
  simp only [ho, resolve, invoke, builtin, Sem.run_bind, Sem.run_pure, Result.andThen_ok, List.map_toArray, List.map_cons, List.map_nil, hv, hy, hr]
  exact hK _ _ (h A c w' h2 h3)

/-- The same from a slice of which it is known how it reads. -/
theorem run_append_clone_rd (w : World) (t ty base e : TypeId) (i : TypeInfo) (z : Value) (size bytes : Nat) (ht : P.underlying t = some (.slice e)) (hi : P.info? e = some i) (hz : i.zero = some z)
    (hsize : i.size = size) (hby : i.bytes = bytes) (hzs : z.cells.size = size) (hsz : 0 < size)
    (g : Nat) (hown : w.ownsRow base e size (.slice (some ⟨g, 0, none⟩) 0 0) 0 [])
    (A : Option Addr) (m c b o : Nat) (ys : List Value) (hA : A = none → c = 0) (hr : Rd w b o A ys) (hl : ys.length = m * size) (h1 : ∀ u ∈ ys, u.oneCell' = true)
    (h63 : m ≤ maxLen) (hbytes : m * bytes ≤ 140737488355328) (hbase : base ≤ w.heap.size) :
    ∃ A' c' w', (Builtin.append_ #[t, t] ty #[.slice (some ⟨g, 0, none⟩) 0 0, .slice A m c]).run P w = .ok (.slice A' m c') w' ∧ w'.ownsRow base e size (.slice A' m c') m ys ∧ w.grownBy w' none := by
  rcases Nat.eq_zero_or_pos m with hm | hm
  · subst hm
    have hx : ys = [] := List.eq_nil_of_length_eq_zero (by simpa using hl)
    subst hx
    rcases A with _ | ad
    · obtain rfl := hA rfl
      exact ⟨_, _, w, run_append_owned_none (P := P) w base t ty e i size ht hi _ 0 [] hown, hown, World.grownBy.refl _ _⟩
    · obtain ⟨hb, _⟩ := Blk.of_own hown
      have hr := run_append_room (P := P) w t ty e i ht hi g 0 0 #[] hb ad 0 c [] (by simp) (by simp) (by simp) (by omega) (by simp)
      refine ⟨_, _, w, ?_, hown, World.grownBy.refl _ _⟩
      rw [hr]
      simp [setRow_self w g #[] e (0, 0) hb]
  · have hne : ys ≠ [] := by
      intro e0
      subst e0
      have := Nat.mul_pos hm hsz
      simp at hl
      omega
    obtain ⟨x, l, hx⟩ := List.exists_cons_of_ne_nil hne
    obtain ⟨rfl, _⟩ := hr 0 x (by rw [hx]; rfl)
    obtain ⟨v', w', hrun, h2, h3⟩ := run_append_arg_grows (P := P) w t ty e i z size bytes ht hi hz hsize hby hzs hsz ⟨g, 0, none⟩ 0 0 [] (by simp) (by simp) ⟨b, o, none⟩ m c ys hl
      (fun j u hj => by have := (hr j u hj).2; rw [← this]; unfold Addr.add; split <;> simp_all) (by omega) (by omega) (by rw [Nat.zero_add]; exact hbytes)
    rw [Nat.zero_add] at h2
    obtain ⟨A', c', rfl⟩ := own_form h2
    exact ⟨A', c', w', hrun, ownsRow_base (by simpa using h2) hbase, h3⟩

theorem wpList_append_clone_rd {w : World} {ops : Array Oper} {rest : List Oper} {o : Oper} {a : Act} {Q : Exit → Act → World → Prop} (hgd : o.guard = none) (s x : Operand) (t : TypeId)
    (ho : o.op = .call { callee := .builtin .append, args := #[s, x], argTypes := #[t, t] })
    (base e : TypeId) (i : TypeInfo) (z : Value) (size bytes : Nat) (ht : P.underlying t = some (.slice e)) (hi : P.info? e = some i) (hz : i.zero = some z)
    (hsize : i.size = size) (hby : i.bytes = bytes) (hzs : z.cells.size = size) (hsz : 0 < size)
    (g : Nat) (hv : a.eval s = .slice (some ⟨g, 0, none⟩) 0 0) (hown : w.ownsRow base e size (.slice (some ⟨g, 0, none⟩) 0 0) 0 [])
    (A : Option Addr) (m c b off : Nat) (ys : List Value) (hy : a.eval x = .slice A m c) (hA : A = none → c = 0) (hr : Rd w b off A ys) (hl : ys.length = m * size) (h1 : ∀ u ∈ ys, u.oneCell' = true)
    (h63 : m ≤ maxLen) (hbytes : m * bytes ≤ 140737488355328) (hbase : base ≤ w.heap.size)
    (h : ∀ A c w', w'.ownsRow base e size (.slice A m c) m ys → w.grownBy w' none → wpList P ops Q rest (a.put o.dst (.slice A m c)) w') : wpList P ops Q (o :: rest) a w := by
  refine wpList_plain hgd fun K hK => ?_
  obtain ⟨A', c', w', hrun, h2, h3⟩ := run_append_clone_rd (P := P) w t o.type base e i z size bytes ht hi hz hsize hby hzs hsz g hown A m c b off ys hA hr hl h1 h63 hbytes hbase
  unfold Oper.wp execOp
  simp only [ho, resolve, invoke, builtin, Sem.run_bind, Sem.run_pure, Result.andThen_ok, List.map_toArray, List.map_cons, List.map_nil, hv, hy, hrun]
  exact hK _ _ (h A' c' w' h2 h3)
end
end Go.Proofs.Ytdjogfofedbohaa
end
section
/- The rule of XRel once more, where how much was drawn is told too: each operation but the last ones makes new memory at most, and its value is known up to a relation that new memory leaves alone: then one walk in the order of the text serves every order. No condition. -/
namespace Go.Proofs.Ytdjogfofedbohaa.Gw
open Go.RowKit Go.Sort

/-- w' is w after some draws, with some blocks laid behind it. -/
def Gr (w w' : World) : Prop := ∃ (q : Nat) (os : Array Obj), w' = grow (w.drewN q) os
theorem Gr.refl (w : World) : Gr w w := ⟨0, #[], by simp [grow, World.drewN]⟩
theorem Gr.trans {a b c : World} (h : Gr a b) (k : Gr b c) : Gr a c := by
  obtain ⟨q, os, rfl⟩ := h
  obtain ⟨r, os', rfl⟩ := k
  exact ⟨q + r, os ++ os', by simp [grow, World.drewN, Array.append_assoc, Nat.add_assoc]⟩
theorem Gr.drewN {a w : World} (h : Gr a w) (n : Nat) : Gr a (w.drewN n) := h.trans ⟨n, #[], by simp [grow, World.drewN]⟩
theorem Gr.drew {a w : World} (h : Gr a w) : Gr a w.drew := h.drewN 1
theorem Gr.alloc {a w : World} (h : Gr a w) (o : Obj) : Gr a (w.alloc o) := h.trans ⟨0, #[o], by simp only [grow, World.drewN, World.alloc, Nat.add_zero]; congr 1⟩
theorem Gr.mod {a w : World} (h : Gr a w) : Mod [] a w := by
  obtain ⟨q, os, rfl⟩ := h
  exact ⟨rfl, rfl, rfl, by simp [grow, World.drewN], fun k hk _ => by simp [grow, World.drewN, Array.getElem?_append_left hk]⟩

/-- What is known of a value, and stays known when new memory is made. -/
structure Stab where
  R : Value → World → Prop
  st : ∀ v w1 w2, R v w1 → Gr w1 w2 → R v w2
def Stab.top : Stab := ⟨fun _ _ => True, fun _ _ _ _ _ => trivial⟩
def Stab.det (e : Value) : Stab := ⟨fun v _ => v = e, fun _ _ _ h _ => h⟩

section
variable {P : Program} {ops : Array Oper} {Q : Exit → Act → World → Prop}

/-- What is asked of a call. -/
def relPost (w : World) (r : Stab) (e : Ending) (w3 : World) : Prop := ∃ v, e = .returned v ∧ Gr w w3 ∧ r.R v w3
theorem relPost_det {w w3 : World} {v : Value} (h : Gr w w3) : relPost w (Stab.det v) (.returned v) w3 := ⟨v, rfl, h, rfl⟩
theorem relPost_by {w w3 : World} {r : Stab} {v : Value} (h : Gr w w3) (hr : r.R v w3) : relPost w r (.returned v) w3 := ⟨v, rfl, h, hr⟩

def relUpon (P : Program) (w : World) (r : Stab) : Result Next → Prop
  | .ok (.value v) w2 => Gr w w2 ∧ r.R v w2
  | .ok .skip w2 => Gr w w2 ∧ r.R undef w2
  | .ok (.enter f args) w2 => Calls P f args w2 (relPost w r)
  | _ => False

def relAt (P : Program) (ops : Array Oper) (o : Oper) (a : Act) (w : World) (r : Stab) : Prop :=
  if Region.wanted o (yielded ops a.tmps) = true then relUpon P w r ((execOp a.eval o).run P w) else r.R undef w

def dstOf (ops : Array Oper) (j : Nat) : Option Tmp := (ops[j]?).bind (·.dst)

/-- The values of earlier operations laid into the frame. -/
def withDeps (Rs : List Stab) (w : World) : List (Nat × Tmp) → Act → (Act → Prop) → Prop
  | [], a, F => F a
  | p :: ds, a, F => ∀ v, (Rs.getD p.1 Stab.top).R v w → withDeps Rs w ds (a.put (some p.2) v) F

/-- One operation after the other, in the order of the text ('none': a bare copy of a variable, taken ahead of all). -/
def relWalk (P : Program) (ops : Array Oper) (w : World) (a : Act) : List Oper → List (Option (List (Nat × Tmp))) → List Stab → (List Stab → Prop) → Prop
  | o :: l, some d :: ds, Rs, F => ∃ r : Stab, (∀ w', Gr w w' → withDeps Rs w' d a fun a' => relAt P ops o a' w' r) ∧ relWalk P ops w a l ds (Rs ++ [r]) F
  | _ :: l, none :: ds, Rs, F => relWalk P ops w a l ds (Rs ++ [Stab.top]) F
  | _, [], Rs, F => F Rs
  | [], _ :: _, _, _ => False

def isPre (ds : List (Option (List (Nat × Tmp)))) (i : Nat) : Bool := match ds[i]? with | some none => true | _ => false

def sinkP (ops : Array Oper) (n : Nat) (ds : List (Option (List (Nat × Tmp)))) : Bool :=
  (List.range n).all fun i => isPre ds i || (List.range (n + 1)).any fun j => decide (i < j) && Region.waitsFor .any ops j i

/-- The bare copies, one behind the other. -/
def preB (ops : Array Oper) : List Nat → Array Bool → Bool
  | [], _ => true
  | i :: is, listed => (match ops[i]? with
    | some o => (match o.op with | .move _ => true | _ => false) && decide (o.guard = none)
    | none => false) && (Region.ready .any ops listed).contains i && Region.free .any ops listed i && preB ops is (listed.setIfInBounds i true)

def preAct (ops : Array Oper) : List Nat → Act → Act
  | [], a => a
  | i :: is, a => preAct ops is (match ops[i]? with
    | some o => (match o.op with | .move x => a.put o.dst (a.eval x) | _ => a)
    | none => a)

def pres (ds : List (Option (List (Nat × Tmp)))) : List Nat := (List.range ds.length).filter (isPre ds)

def relB (ops : Array Oper) (ds : List (Option (List (Nat × Tmp)))) (hs : List (Nat × Tmp)) (size : Nat) : Bool :=
  let n := ds.length
  Region.noSelect ops && decide (n ≤ ops.size) && (decide (n = ops.size) || (sinkP ops n ds && Region.chainB .any ops n)) &&
  preB ops (pres ds) (Array.replicate ops.size false) &&
  decide (hs = (List.range n).filterMap fun j => if isPre ds j then none else (dstOf ops j).map fun d => (j, d)) &&
  hs.all (fun p => decide (p.2 < size)) &&
  ((List.range n).all fun i => match ops[i]?, ds[i]? with
    | some o, some d =>
      (o.after.all fun e => !Region.binds .any e || decide (e.on < i)) &&
      ((d.getD []).all fun p => decide (p.1 < i) && decide (dstOf ops p.1 = some p.2) && Region.waitsFor .any ops i p.1 && !isPre ds p.1) &&
      ((o.looksAt ops).all fun t => (d.getD []).any (fun p => p.2 == t) || (List.range n).all fun j => isPre ds j || decide (dstOf ops j ≠ some t)) &&
      ((List.range n).all fun j => decide (j = i) || decide (dstOf ops i = none) || decide (dstOf ops j ≠ dstOf ops i))
    | _, _ => false) &&
  Region.seqB .any ops (ops.size - n) n ((Array.range ops.size).map fun i => decide (i < n))

theorem withDeps_elim {Rs : List Stab} {w : World} {a : Act} {F : Act → Prop} : ∀ (ds : List (Nat × Tmp)) (b : Act), withDeps Rs w ds b F →
    (∀ p ∈ ds, ∃ v, a.tmps[p.2]? = some v ∧ (Rs.getD p.1 Stab.top).R v w) → a.tmps.size = b.tmps.size →
    ∃ b', F b' ∧ b'.defers = b.defers ∧ b'.tmps.size = b.tmps.size ∧ (∀ p ∈ ds, b'.tmps[p.2]? = a.tmps[p.2]?) ∧ (∀ t, (∀ p ∈ ds, p.2 ≠ t) → b'.tmps[t]? = b.tmps[t]?)
  | [], b, h, _, _ => ⟨b, h, rfl, rfl, (fun p hp => by cases hp), fun _ _ => rfl⟩
  | p :: ds, b, h, hv, hs => by
    obtain ⟨v, hv1, hv2⟩ := hv p (List.mem_cons_self ..)
    have hlt : p.2 < b.tmps.size := by
      rw [← hs]
      exact (Array.getElem?_eq_some_iff.1 hv1).1
    obtain ⟨b', hF, h1, h2, h3, h4⟩ := withDeps_elim ds (b.put (some p.2) v) (h v hv2) (fun q hq => hv q (List.mem_cons_of_mem _ hq)) (by simpa [Act.put] using hs)
    refine ⟨b', hF, by simpa [Act.put] using h1, by simpa [Act.put] using h2, fun q hq => ?_, fun t ht => ?_⟩
    · by_cases hin : q ∈ ds
      · exact h3 q hin
      · obtain rfl : q = p := (List.mem_cons.1 hq).resolve_right hin
        by_cases hx : ∃ r ∈ ds, r.2 = q.2
        · obtain ⟨r, hr, he⟩ := hx
          rw [← he]
          exact h3 r hr
        · rw [h4 q.2 (fun r hr he => hx ⟨r, hr, he⟩), hv1]
          simp [Act.put, hlt]
    · rw [h4 t (fun r hr => ht r (List.mem_cons_of_mem _ hr))]
      simp [Act.put, Array.getElem?_setIfInBounds_ne (ht p (List.mem_cons_self ..))]

/-- What the walk has laid down. -/
theorem relWalk_elim {w : World} {a : Act} {F : List Stab → Prop} : ∀ (l : List Oper) (ds : List (Option (List (Nat × Tmp)))) (Rs : List Stab), relWalk P ops w a l ds Rs F →
    ∃ Rs', F Rs' ∧ (∀ j, j < Rs.length → Rs'[j]? = Rs[j]?) ∧ ∀ i o d, l[i]? = some o → ds[i]? = some (some d) → (∀ q ∈ d, q.1 < Rs.length + i) → ∃ r, Rs'[Rs.length + i]? = some r ∧ ∀ w', Gr w w' → withDeps Rs' w' d a fun a' => relAt P ops o a' w' r
  | l, [], Rs, h => ⟨Rs, by cases l <;> exact h, fun _ _ => rfl, (fun i o d _ hd => by simp at hd)⟩
  | [], _ :: _, Rs, h => h.elim
  | o :: rest, none :: ds, Rs, h => by
    obtain ⟨Rs', hF, ha, hb⟩ := relWalk_elim rest ds (Rs ++ [Stab.top]) h
    have hpre : ∀ j, j < Rs.length → Rs'[j]? = Rs[j]? := fun j hj => by
      rw [ha j (by simp; omega), List.getElem?_append_left hj]
    refine ⟨Rs', hF, hpre, fun i q d hq hd hlt => ?_⟩
    cases i with
    | zero => simp at hd
    | succ i =>
      obtain ⟨r', h3, h4⟩ := hb i q d (by simpa using hq) (by simpa using hd) (fun x hx => by have := hlt x hx; simp; omega)
      refine ⟨r', ?_, h4⟩
      rw [← h3]
      congr 1
      simp
      omega
  | o :: rest, some d0 :: ds, Rs, h => by
    obtain ⟨r, h1, h2⟩ := h
    obtain ⟨Rs', hF, ha, hb⟩ := relWalk_elim rest ds (Rs ++ [r]) h2
    have hpre : ∀ j, j < Rs.length → Rs'[j]? = Rs[j]? := fun j hj => by
      rw [ha j (by simp; omega), List.getElem?_append_left hj]
    refine ⟨Rs', hF, hpre, fun i q d hq hd hlt => ?_⟩
    cases i with
    | zero =>
      simp only [List.getElem?_cons_zero, Option.some.injEq] at hq hd
      subst hq
      subst hd
      refine ⟨r, by rw [Nat.add_zero, ha _ (by simp)]; simp, fun w' hw' => ?_⟩
      have h3 := h1 w' hw'
      have hcong : ∀ (ds : List (Nat × Tmp)) (b : Act) (G : Act → Prop), (∀ q ∈ ds, q.1 < Rs.length) → withDeps Rs w' ds b G → withDeps Rs' w' ds b G := by
        intro ds
        induction ds with
        | nil => exact fun _ _ _ h => h
        | cons d ds ih =>
          intro b G hd hh v hv
          refine ih _ _ (fun q hq => hd q (List.mem_cons_of_mem _ hq)) (hh v ?_)
          have he := hpre d.1 (hd d (List.mem_cons_self ..))
          simp only [List.getD_eq_getElem?_getD, he] at hv ⊢
          exact hv
      exact hcong _ _ _ (fun q hq => by have := hlt q hq; omega) h3
    | succ i =>
      obtain ⟨r', h3, h4⟩ := hb i q d (by simpa using hq) (by simpa using hd) (fun x hx => by have := hlt x hx; simp; omega)
      refine ⟨r', ?_, h4⟩
      rw [← h3]
      congr 1
      simp
      omega

structure RInv (ops : Array Oper) (ds : List (Option (List (Nat × Tmp)))) (n : Nat) (Rs : List Stab) (w0 : World) (a0 : Act) (listed : Array Bool) (a : Act) (w : World) : Prop where
  head : HeadInv .any ops n listed
  pre : ∀ i, isPre ds i = true → i < n → listed.getD i false = true
  mod : Gr w0 w
  defers : a.defers = a0.defers
  size : a.tmps.size = a0.tmps.size
  done : ∀ j d, j < n → isPre ds j = false → listed.getD j false = true → dstOf ops j = some d → ∃ v, a.tmps[d]? = some v ∧ (Rs.getD j Stab.top).R v w
  rest : ∀ t, (∀ j, j < n → isPre ds j = false → listed.getD j false = true → dstOf ops j ≠ some t) → a.tmps[t]? = a0.tmps[t]?

theorem filter_less {l : List Nat} {p q : Nat → Bool} {i : Nat} (hn : l.Nodup) (hi : i ∈ l) (hp : p i = true) (hq : q i = false) (h : ∀ j, j ≠ i → q j = p j) : (l.filter p).length = (l.filter q).length + 1 := by
  induction l with
  | nil => cases hi
  | cons x l ih =>
    rw [List.nodup_cons] at hn
    by_cases hx : x = i
    · subst hx
      have : l.filter q = l.filter p := List.filter_congr fun j hj => h j (fun e => hn.1 (e ▸ hj))
      rw [List.filter_cons_of_pos hp, List.filter_cons_of_neg (by simp [hq]), this]
      simp
    · have hi' : i ∈ l := (List.mem_cons.1 hi).resolve_left (fun e => hx e.symm)
      have := ih hn.2 hi'
      cases hpx : p x with
      | true => rw [List.filter_cons_of_pos hpx, List.filter_cons_of_pos (by rw [h x hx]; exact hpx)]; simp [this]
      | false => rw [List.filter_cons_of_neg (by simp [hpx]), List.filter_cons_of_neg (by rw [h x hx]; simp [hpx])]; exact this

theorem wanted_same {o : Oper} {a b : Act} (h : ∀ t ∈ o.looksAt ops, a.tmps[t]? = b.tmps[t]?) : Region.wanted o (yielded ops a.tmps) = Region.wanted o (yielded ops b.tmps) := by
  unfold Region.wanted
  cases hg : o.guard with
  | none => rfl
  | some gw =>
    obtain ⟨g, want⟩ := gw
    have hy : yielded ops a.tmps g = yielded ops b.tmps g := by
      unfold yielded
      cases ht : (ops[g]?).bind (·.dst) with
      | none => rfl
      | some t => simp [h t (by simp [Oper.looksAt, hg, ht])]
    simp only [hy]

theorem exec_same {o : Oper} {a b : Act} (hs : ∀ cs b, o.op ≠ .select cs b) (h : ∀ t ∈ o.looksAt ops, a.tmps[t]? = b.tmps[t]?) : execOp a.eval o = execOp b.eval o :=
  execOp_congr o hs fun x hx => by
    cases x with
    | tmp t =>
      have := h t (List.mem_append_left _ (List.mem_filterMap.2 ⟨.tmp t, by simpa using hx, rfl⟩))
      simp only [Act.eval, Array.getD_eq_getD_getElem?, this]
    | _ => rfl

theorem wp_of_relUpon {o : Oper} {a : Act} {w : World} {r : Stab} {K : Act → World → Prop} (h : relUpon P w r ((execOp a.eval o).run P w)) (hK : ∀ v w2, Gr w w2 → r.R v w2 → K (a.put o.dst v) w2) : o.wp P a w K Q := by
  unfold Oper.wp
  generalize (execOp a.eval o).run P w = res at *
  cases res with
  | ok x w2 =>
    cases x <;> simp only [relUpon] at h <;> simp only [Oper.upon]
    case value v => exact hK _ _ h.1 h.2
    case skip => exact hK _ _ h.1 h.2
    case enter f args => exact h.mono fun e w3 ⟨v, he, hm, hr⟩ => by subst he; exact hK _ _ hm hr
  | halt x w2 => simp only [relUpon] at h

theorem sinkP_waits {n : Nat} {ds : List (Option (List (Nat × Tmp)))} {listed : Array Bool} (hs : sinkP ops n ds = true) (hc : Region.chainB .any ops n = true) (hn : n < ops.size) (inv : HeadInv .any ops n listed) (hp : ∀ i, isPre ds i = true → i < n → listed.getD i false = true) :
    ∀ (d i : Nat), n - i = d → i < n → listed.getD i true = false → ∀ t, n ≤ t → t ∉ Region.ready .any ops listed := by
  intro d
  induction d using Nat.strongRecOn with
  | _ d ih =>
    intro i hd hi hun t ht hr
    obtain ⟨_, ot, hot, hall⟩ := mem_ready.1 hr
    have htlt : t < ops.size := (Array.getElem?_eq_some_iff.1 hot).1
    by_cases htn : t = n
    · subst htn
      have h1 := List.all_eq_true.1 hs i (List.mem_range.2 hi)
      rw [Bool.or_eq_true] at h1
      rcases h1 with h1 | h1
      · have := hp i h1 hi
        rw [getD_both hun] at this
        cases this
      obtain ⟨j, hj, hj2⟩ := List.any_eq_true.1 h1
      simp only [Bool.and_eq_true, decide_eq_true_eq] at hj2
      obtain ⟨oj, hoj, e, he, hb, hon⟩ := Region.waitsFor_spec hj2.2
      have hjle : j ≤ t := by have := List.mem_range.1 hj; omega
      by_cases hjt : j = t
      · subst hjt
        have : oj = ot := Option.some.inj (hoj.symm.trans hot)
        subst this
        have h2 := hall e he hb
        rw [hon, getD_both hun] at h2
        cases h2
      · cases hl : listed.getD j false with
        | true =>
          have h2 := inv.closed j oj hoj hl e he hb
          rw [hon, getD_both hun] at h2
          cases h2
        | false =>
          have hjs : j < listed.size := by rw [inv.size]; omega
          exact ih (t - j) (by omega) j rfl (by omega) (getD_in hjs hl) t (Nat.le_refl _) hr
    · have h1 := List.all_eq_true.1 hc t (List.mem_range.2 htlt)
      simp only [Bool.or_eq_true, decide_eq_true_eq] at h1
      rcases h1 with h1 | h1
      · omega
      · obtain ⟨o', ho', e, he, hb, hon⟩ := Region.waitsFor_spec h1
        have : o' = ot := Option.some.inj (ho'.symm.trans hot)
        subst this
        have h2 := hall e he hb
        rw [hon, getD_both (inv.tail (t - 1) (by omega) (by omega))] at h2
        cases h2

theorem pre_first {Q : Exit → Act → World → Prop} (hQ : ∀ c a w, ¬ Q (.panic c) a w) (hsel : Region.noSelect ops = true) : ∀ (is : List Nat) (listed : Array Bool) (a : Act) (w : World) (fuel : Nat), preB ops is listed = true →
    wpAny P .any ops Q fuel (is.foldl (fun l i => l.setIfInBounds i true) listed) (preAct ops is a) w → wpAny P .any ops Q (fuel + is.length) listed a w
  | [], _, _, _, _, _, h => h
  | i :: is, listed, a, w, fuel, hB, h => by
    simp only [preB, Bool.and_eq_true] at hB
    obtain ⟨⟨⟨hmv, hr⟩, hf⟩, hB'⟩ := hB
    cases ho : ops[i]? with
    | none => rw [ho] at hmv; cases hmv
    | some o =>
      rw [ho] at hmv
      simp only [Bool.and_eq_true, decide_eq_true_eq] at hmv
      obtain ⟨hmv, hg⟩ := hmv
      cases hop : o.op with
      | move x =>
        simp only [preAct, ho, hop] at h
        have h1 := pre_first hQ hsel is _ _ w fuel hB' h
        have := wpAny_first (v := a.eval x) ho (Region.noSelect_spec hsel) (fun c a w hq => absurd hq (hQ c _ w)) (fuel + is.length) listed a w (Region.free_spec ho hf) (by simpa using hr)
          (.inl ⟨by simp [Region.wanted, hg], fun w => by simp [execOp, hop]⟩) h1
        exact this
      | _ => rw [hop] at hmv; cases hmv

theorem foldl_set {is : List Nat} {listed : Array Bool} : (is.foldl (fun l i => l.setIfInBounds i true) listed).size = listed.size ∧
    ∀ j d, (is.foldl (fun l i => l.setIfInBounds i true) listed).getD j d = if j ∈ is ∧ j < listed.size then true else listed.getD j d := by
  induction is generalizing listed with
  | nil => exact ⟨rfl, fun j d => by simp⟩
  | cons i is ih =>
    obtain ⟨h1, h2⟩ := ih (listed := listed.setIfInBounds i true)
    refine ⟨by simpa using h1, fun j d => ?_⟩
    rw [List.foldl_cons, h2]
    simp only [Array.size_setIfInBounds, List.mem_cons]
    by_cases hj : j = i
    · subst hj
      by_cases hlt : j < listed.size
      · simp [hlt]
      · simp [hlt]
    · rw [getD_set_ne d (Ne.symm hj)]
      simp [hj]

theorem put_same (a : Act) (d : Option Tmp) (v : Value) : (a.put d v).defers = a.defers ∧ (a.put d v).tmps.size = a.tmps.size := by cases d <;> simp [Act.put]
theorem preAct_same : ∀ (is : List Nat) (a : Act), (preAct ops is a).defers = a.defers ∧ (preAct ops is a).tmps.size = a.tmps.size
  | [], _ => ⟨rfl, rfl⟩
  | i :: is, a => by
    cases ho : ops[i]? with
    | none => simp only [preAct, ho]; exact preAct_same is a
    | some o =>
      cases hop : o.op with
      | move x =>
        simp only [preAct, ho, hop]
        obtain ⟨h1, h2⟩ := preAct_same is (a.put o.dst (a.eval x))
        exact ⟨h1.trans (put_same _ _ _).1, h2.trans (put_same _ _ _).2⟩
      | _ => simp only [preAct, ho, hop]; exact preAct_same is a

theorem wp_region_rel_of {id : Nat} {l : List Oper} {ds : List (Option (List (Nat × Tmp)))} {hs : List (Nat × Tmp)} {Rs : List Stab} (hm : P.follows .mixedOrders = true) (hQ : ∀ c a w, ¬ Q (.panic c) a w) {a0 : Act} {w : World}
    (hB : relB l.toArray ds hs a0.tmps.size = true)
    (hobs : ∀ i o d, l[i]? = some o → ds[i]? = some (some d) → ∀ w', Gr w w' → withDeps Rs w' d (preAct l.toArray (pres ds) a0) fun a' => relAt P l.toArray o a' w' (Rs.getD i Stab.top))
    (htail : ∀ w', Gr w w' → withDeps Rs w' hs (preAct l.toArray (pres ds) a0) fun a' => wpList P l.toArray Q (l.drop ds.length) a' w') : (Code.region id l.toArray true).wp P Q a0 w := by
  obtain ⟨n, hnd⟩ : ∃ n, n = ds.length := ⟨_, rfl⟩
  simp only [relB, ← hnd, Bool.and_eq_true, Bool.or_eq_true, decide_eq_true_eq] at hB
  obtain ⟨⟨⟨⟨⟨⟨⟨hsel, hn⟩, htl⟩, hpreB⟩, hhs⟩, hsz⟩, hops⟩, hseq⟩ := hB
  rw [← hnd] at htail
  have hsel' := Region.noSelect_spec hsel
  refine wp_region_any hm ?_
  obtain ⟨a, ha⟩ : ∃ a, a = preAct l.toArray (pres ds) a0 := ⟨_, rfl⟩
  have has := preAct_same (ops := l.toArray) (pres ds) a0
  rw [← ha] at hobs htail has
  -- a tail operation waits for all of the head
  have hwait : ∀ {listed : Array Bool}, HeadInv .any l.toArray n listed → (∀ i, isPre ds i = true → i < n → listed.getD i false = true) → ∀ i, i < n → listed.getD i true = false → ∀ t, n ≤ t → t ∉ Region.ready .any l.toArray listed := by
    intro listed inv hp i hi hun t ht hr
    have htlt : t < l.toArray.size := by obtain ⟨_, o, ho, _⟩ := mem_ready.1 hr; exact (Array.getElem?_eq_some_iff.1 ho).1
    rcases htl with htl | ⟨hs1, hc1⟩
    · omega
    · rcases Nat.lt_or_ge n l.toArray.size with hlt | hge
      · exact sinkP_waits hs1 hc1 hlt inv hp _ i rfl hi hun t ht hr
      · omega
  have main : ∀ (m : Nat) (listed : Array Bool) (b : Act) (w' : World), RInv l.toArray ds n Rs w a listed b w' →
      ((List.range n).filter fun i => !listed.getD i false).length = m → wpAny P .any l.toArray Q (m + (l.toArray.size - n)) listed b w' := by
    intro m
    induction m with
    | zero =>
      intro listed b w' inv hc
      have hall : ∀ i, i < n → listed.getD i false = true := by
        intro i hi
        have h0 := List.eq_nil_of_length_eq_zero hc
        rw [List.filter_eq_nil_iff] at h0
        simpa using h0 i (List.mem_range.2 hi)
      have hl : listed = (Array.range l.toArray.size).map fun i => decide (i < n) := by
        apply Array.ext_getElem?
        intro i
        rcases Nat.lt_or_ge i l.toArray.size with hi | hi
        · have hil : i < listed.size := by rw [inv.head.size]; exact hi
          rw [Array.getElem?_eq_getElem hil]
          simp only [Array.getElem?_map, Array.getElem?_range, hi, if_true, Option.map_some]
          congr 1
          rcases Nat.lt_or_ge i n with h1 | h1
          · have := hall i h1
            simpa [h1, hil] using this
          · have := inv.head.tail i h1 hi
            have h2 : ¬ i < n := by omega
            simpa [h2, hil] using this
        · rw [Array.getElem?_eq_none (by rw [inv.head.size]; exact hi), Array.getElem?_eq_none (by simpa using hi)]
      rw [← hl] at hseq
      have ht := htail w' inv.mod
      obtain ⟨b', hF, h1, h2, h3, h4⟩ := withDeps_elim (a := b) hs a ht (fun p hp => by
        rw [hhs, List.mem_filterMap] at hp
        obtain ⟨j, hj, he⟩ := hp
        cases hpr : isPre ds j with
        | true => simp [hpr] at he
        | false =>
          cases hd : dstOf l.toArray j with
          | none => simp [hpr, hd] at he
          | some d =>
            simp only [hpr, hd, Bool.false_eq_true, if_false, Option.map_some, Option.some.injEq] at he
            subst he
            exact inv.done j d (List.mem_range.1 hj) hpr (hall j (List.mem_range.1 hj)) hd) inv.size
      have hbb : b' = b := by
        obtain ⟨bt, bd⟩ := b
        obtain ⟨bt', bd'⟩ := b'
        have e1 : bd' = bd := h1.trans inv.defers.symm
        have e2 : bt' = bt := by
          apply Array.ext_getElem?
          intro t
          by_cases hx : ∃ p ∈ hs, p.2 = t
          · obtain ⟨p, hp, he⟩ := hx
            rw [← he]
            exact h3 p hp
          · refine (h4 t (fun p hp he => hx ⟨p, hp, he⟩)).trans (inv.rest t (fun j hj hpr _ hd => hx ⟨(j, t), ?_, rfl⟩)).symm
            rw [hhs, List.mem_filterMap]
            exact ⟨j, List.mem_range.2 hj, by rw [hd, hpr]; rfl⟩
        rw [e1, e2]
      subst hbb
      have := wpAny_of_seq (Q' := Q) (l.drop n) n listed b' w' (fun j => by simp) (by simpa using hseq) hF
      simpa using this
    | succ m ih =>
      intro listed b w' inv hc
      have hsome : ∃ i, i < n ∧ listed.getD i false = false ∧ ∀ j, j < i → listed.getD j false = true := by
        have hex : ∃ i, i < n ∧ listed.getD i false = false := by
          have hne : (List.range n).filter (fun i => !listed.getD i false) ≠ [] := by
            intro e
            rw [e] at hc
            cases hc
          obtain ⟨i, hi⟩ := List.exists_mem_of_ne_nil _ hne
          rw [List.mem_filter] at hi
          exact ⟨i, List.mem_range.1 hi.1, by simpa using hi.2⟩
        obtain ⟨i, hi, hl⟩ := hex
        induction i using Nat.strongRecOn with
        | _ i ihi =>
          by_cases hx : ∃ j, j < i ∧ listed.getD j false = false
          · obtain ⟨j, hj, hjl⟩ := hx
            exact ihi j hj (by omega) hjl
          · refine ⟨i, hi, hl, fun j hj => ?_⟩
            cases h : listed.getD j false with
            | true => rfl
            | false => exact absurd ⟨j, hj, h⟩ hx
      obtain ⟨k, hk, hkl, hkm⟩ := hsome
      have getT : ∀ i, i < n → listed.getD i false = false → listed.getD i true = false := fun i hi h => getD_in (by rw [inv.head.size]; omega) h
      have hkr : k ∈ Region.ready .any l.toArray listed := by
        have h1 := List.all_eq_true.1 hops k (List.mem_range.2 hk)
        cases hok : l.toArray[k]? with
        | none => rw [hok] at h1; cases h1
        | some o =>
          cases hdk : ds[k]? with
          | none => rw [hok, hdk] at h1; cases h1
          | some dk =>
            rw [hok, hdk] at h1
            simp only [Bool.and_eq_true] at h1
            refine mem_ready.2 ⟨getT k hk hkl, o, hok, fun e he hb => ?_⟩
            have h2 := Array.all_eq_true'.1 h1.1.1.1 e he
            simp only [Bool.or_eq_true, Bool.not_eq_true', decide_eq_true_eq] at h2
            rcases h2 with h2 | h2
            · rw [h2] at hb; cases hb
            · exact hkm _ h2
      rw [show m + 1 + (l.toArray.size - n) = (m + (l.toArray.size - n)) + 1 from by omega]
      refine ⟨fun h0 => (by rw [h0] at hkr; cases hkr), fun i hi => ?_⟩
      have hin : i < n := by
        rcases Nat.lt_or_ge i n with h | h
        · exact h
        · exact absurd hi (hwait inv.head inv.pre k hk (getT k hk hkl) i h)
      obtain ⟨hun, o, ho, haft⟩ := mem_ready.1 hi
      have hunf := getD_both hun
      have hnp : isPre ds i = false := by
        cases h : isPre ds i with
        | false => rfl
        | true => have := inv.pre i h hin; rw [hunf] at this; cases this
      obtain ⟨d, hd⟩ : ∃ d, ds[i]? = some (some d) := by
        have : ds[i]? = some (ds[i]'(by omega)) := List.getElem?_eq_getElem (by omega)
        cases hx : ds[i]'(by omega) with
        | none => rw [hx] at this; simp [isPre, this] at hnp
        | some d => exact ⟨d, by rw [this, hx]⟩
      have h1 := List.all_eq_true.1 hops i (List.mem_range.2 hin)
      rw [ho, hd] at h1
      simp only [Bool.and_eq_true, Option.getD_some] at h1
      obtain ⟨⟨⟨_, hdeps⟩, hlook⟩, huniq⟩ := h1
      have hol : l[i]? = some o := by simpa using ho
      have hob := hobs i o d hol hd w' inv.mod
      have hdep : ∀ p ∈ d, p.1 < n ∧ listed.getD p.1 false = true ∧ dstOf l.toArray p.1 = some p.2 ∧ isPre ds p.1 = false := fun p hp => by
        have h2 := List.all_eq_true.1 hdeps p hp
        simp only [Bool.and_eq_true, decide_eq_true_eq, Bool.not_eq_true'] at h2
        obtain ⟨⟨⟨h3, h4⟩, h5⟩, h6⟩ := h2
        obtain ⟨o', ho', e, he, hb, hon⟩ := Region.waitsFor_spec h5
        have : o' = o := Option.some.inj (ho'.symm.trans ho)
        subst this
        exact ⟨by omega, by rw [← hon]; exact haft e he hb, h4, h6⟩
      obtain ⟨b', hF, hb1, hb2, hb3, hb4⟩ := withDeps_elim (a := b) d a hob (fun p hp => inv.done p.1 p.2 (hdep p hp).1 (hdep p hp).2.2.2 (hdep p hp).2.1 (hdep p hp).2.2.1) inv.size
      have hsame : ∀ t ∈ o.looksAt l.toArray, b'.tmps[t]? = b.tmps[t]? := fun t ht => by
        by_cases hx : ∃ p ∈ d, p.2 = t
        · obtain ⟨p, hp, he⟩ := hx
          rw [← he]
          exact hb3 p hp
        · have h2 := List.all_eq_true.1 hlook t ht
          simp only [Bool.or_eq_true] at h2
          rcases h2 with h2 | h2
          · obtain ⟨p, hp, he⟩ := List.any_eq_true.1 h2
            exact absurd ⟨p, hp, by simpa using he⟩ hx
          · rw [hb4 t (fun p hp he => hx ⟨p, hp, he⟩)]
            refine (inv.rest t (fun j hj hpr _ => ?_)).symm
            have := List.all_eq_true.1 h2 j (List.mem_range.2 hj)
            simpa [hpr] using this
      have hFb : relAt P l.toArray o b w' (Rs.getD i Stab.top) := by
        unfold relAt at hF ⊢
        rw [wanted_same hsame, exec_same (hsel' i o · · ho) hsame] at hF
        exact hF
      have step : ∀ v w2, Gr w' w2 → (Rs.getD i Stab.top).R v w2 → wpAny P .any l.toArray Q (m + (l.toArray.size - n)) (listed.setIfInBounds i true) (b.put o.dst v) w2 := by
        intro v w2 hmod hr
        have hdst : dstOf l.toArray i = o.dst := by simp [dstOf, hol]
        have hil : i < listed.size := by rw [inv.head.size]; omega
        refine ih _ _ _ ⟨inv.head.set hi hin, fun j hj hjn => getD_set_true (inv.pre j hj hjn), inv.mod.trans hmod, ?_, ?_, fun j dd hj hjp hjl hjd => ?_, fun t ht => ?_⟩ ?_
        · exact (put_same _ _ _).1.trans inv.defers
        · exact (put_same _ _ _).2.trans inv.size
        · by_cases hji : j = i
          · subst hji
            rw [hdst] at hjd
            rw [hjd]
            have hlt : dd < b.tmps.size := by
              rw [inv.size, has.2]
              have h2 := List.all_eq_true.1 hsz (j, dd) (by rw [hhs, List.mem_filterMap]; exact ⟨j, List.mem_range.2 hj, by rw [hdst, hjd, hjp]; rfl⟩)
              simpa using h2
            exact ⟨v, by simp [Act.put, hlt], hr⟩
          · rw [getD_set_ne false (Ne.symm hji)] at hjl
            obtain ⟨u, hu1, hu2⟩ := inv.done j dd hj hjp hjl hjd
            refine ⟨u, ?_, (Rs.getD j Stab.top).st _ _ _ hu2 hmod⟩
            rw [← hu1]
            cases hod : o.dst with
            | none => rfl
            | some od =>
              have h2 := List.all_eq_true.1 huniq j (List.mem_range.2 hj)
              simp only [Bool.or_eq_true, decide_eq_true_eq] at h2
              have hne : od ≠ dd := by
                intro e
                rcases h2 with (h2 | h2) | h2
                · exact hji h2
                · rw [hdst, hod] at h2; cases h2
                · exact h2 (by rw [hjd, hdst, hod, e])
              simp [Act.put, Array.getElem?_setIfInBounds_ne hne]
        · have hne : ∀ od, o.dst = some od → od ≠ t := fun od hod e => ht i hin hnp (by simp [hil]) (by rw [hdst, hod, e])
          rw [← inv.rest t (fun j hj hjp hjl => ht j hj hjp (getD_set_true hjl))]
          cases hod : o.dst with
          | none => rfl
          | some od => simp [Act.put, Array.getElem?_setIfInBounds_ne (hne od hod)]
        · have := filter_less (p := fun j => !listed.getD j false) (q := fun j => !(listed.setIfInBounds i true).getD j false) List.nodup_range (List.mem_range.2 hin) (by simp [hunf]) (by simp [hil]) (fun j hj => by rw [getD_set_ne false (Ne.symm hj)])
          omega
      unfold wpOp
      rw [ho]
      show if Region.wanted o (yielded l.toArray b.tmps) = true then _ else _
      unfold relAt at hFb
      split
      · rename_i hw
        rw [if_pos hw] at hFb
        exact .inl (wp_of_relUpon hFb step)
      · rename_i hw
        rw [if_neg hw] at hFb
        exact step undef w' (Gr.refl _) hFb
  -- the bare copies first
  have hpm : ∀ j, j ∈ pres ds ↔ j < n ∧ isPre ds j = true := fun j => by simp [pres, hnd]
  obtain ⟨L, hL⟩ : ∃ L, L = (pres ds).foldl (fun l i => l.setIfInBounds i true) (Array.replicate l.toArray.size false) := ⟨_, rfl⟩
  obtain ⟨hL1, hL2⟩ := foldl_set (is := pres ds) (listed := Array.replicate l.toArray.size false)
  rw [← hL] at hL1 hL2
  have hLf : ∀ j, L.getD j false = true ↔ j ∈ pres ds := fun j => by
    rw [hL2, getD_replicate_false]
    constructor
    · intro h
      split at h
      · rename_i h'; exact h'.1
      · cases h
    · intro h
      have := (hpm j).1 h
      rw [if_pos ⟨h, by simp; simp at hn; omega⟩]
  have inv0 : RInv l.toArray ds n Rs w a L a { w with drawn := w.drawn + 1 } := by
    refine ⟨⟨by rw [hL1]; simp, ?_, fun t ht htl => ?_⟩, fun i hi hin => (hLf i).2 ((hpm i).2 ⟨hin, hi⟩), (Gr.refl w).drew, rfl, rfl, fun j d _ hjp hl => ?_, fun _ _ => rfl⟩
    · -- what is listed has waited for nothing that is not: by the check
      have closed : ∀ (is : List Nat) (L0 : Array Bool), L0.size = l.toArray.size → preB l.toArray is L0 = true → (∀ j oj, l.toArray[j]? = some oj → L0.getD j false = true → ∀ e ∈ oj.after, Region.binds .any e = true → L0.getD e.on false = true) →
          ∀ j oj, l.toArray[j]? = some oj → (is.foldl (fun l i => l.setIfInBounds i true) L0).getD j false = true → ∀ e ∈ oj.after, Region.binds .any e = true → (is.foldl (fun l i => l.setIfInBounds i true) L0).getD e.on false = true := by
        intro is
        induction is with
        | nil => exact fun _ _ _ h => h
        | cons i is ih =>
          intro L0 hs0 hb hcl
          simp only [preB, Bool.and_eq_true] at hb
          obtain ⟨⟨⟨_, hr⟩, _⟩, hb'⟩ := hb
          obtain ⟨_, oi, hoi, hall⟩ := mem_ready.1 (by simpa using hr : i ∈ Region.ready .any l.toArray L0)
          refine ih (L0.setIfInBounds i true) (by simpa using hs0) hb' (fun j oj hj hl e he hbn => ?_)
          by_cases hij : i = j
          · subst hij
            have : oj = oi := Option.some.inj (hj.symm.trans hoi)
            subst this
            exact getD_set_true (hall e he hbn)
          · rw [getD_set_ne false hij] at hl
            exact getD_set_true (hcl j oj hj hl e he hbn)
      rw [hL]
      exact closed _ _ (by simp) hpreB (fun j oj _ hl => (by rw [getD_replicate_false] at hl; cases hl))
    · rw [hL2, if_neg (fun h => by have := (hpm t).1 h.1; omega)]
      exact getD_in (by simpa using htl) (getD_replicate_false _ _)
    · have := (hpm j).1 ((hLf j).1 hl)
      rw [hjp] at this
      exact absurd this.2 (by simp)
  have hcount : ((List.range n).filter fun i => !L.getD i false).length + (pres ds).length = n := by
    have e1 : (List.range n).filter (fun i => !L.getD i false) = (List.range n).filter (fun i => !isPre ds i) := List.filter_congr fun j hj => by
      have hjn := List.mem_range.1 hj
      congr 1
      rw [Bool.eq_iff_iff, hLf, hpm]
      simp [hjn]
    have e2 : pres ds = (List.range n).filter (isPre ds) := by rw [pres, hnd]
    rw [e1, e2]
    have : ∀ (k : List Nat), (k.filter fun i => !isPre ds i).length + (k.filter (isPre ds)).length = k.length := by
      intro k
      induction k with
      | nil => rfl
      | cons x k ih => cases h : isPre ds x <;> simp [h] <;> omega
    rw [this, List.length_range]
  have hmain := main _ _ _ _ inv0 rfl
  rw [ha, hL] at hmain
  have := pre_first hQ hsel (pres ds) _ a0 { w with drawn := w.drawn + 1 } _ hpreB hmain
  rw [← hL] at this
  have hfu : ((List.range n).filter fun i => !L.getD i false).length + (l.toArray.size - n) + (pres ds).length = l.toArray.size := by omega
  rw [hfu] at this
  exact this

theorem wp_region_rel {id : Nat} {l : List Oper} (ds : List (Option (List (Nat × Tmp)))) (hs : List (Nat × Tmp)) (hm : P.follows .mixedOrders = true) {a : Act} {w : World}
    (hB : relB l.toArray ds hs a.tmps.size = true)
    (h : relWalk P l.toArray w (preAct l.toArray (pres ds) a) l ds [] fun Rs => ∀ w', Gr w w' → withDeps Rs w' hs (preAct l.toArray (pres ds) a) fun a' => wpList P l.toArray (NoPanic Q) (l.drop ds.length) a' w') : (Code.region id l.toArray true).wp P Q a w := by
  obtain ⟨Rs, hF, _, hobs⟩ := relWalk_elim _ _ _ h
  have hB' := hB
  simp only [relB, Bool.and_eq_true, Bool.or_eq_true, decide_eq_true_eq] at hB'
  obtain ⟨⟨⟨⟨⟨⟨⟨_, hn⟩, _⟩, _⟩, _⟩, _⟩, hops⟩, _⟩ := hB'
  refine wp_region_noPanic (wp_region_rel_of hm (fun _ _ _ h => h) hB (fun i o d ho hd w' hw' => ?_) hF)
  have hi : i < ds.length := by
    rcases Nat.lt_or_ge i ds.length with h1 | h1
    · exact h1
    · rw [List.getElem?_eq_none h1] at hd; cases hd
  obtain ⟨r, hr, hall⟩ := hobs i o d ho hd (fun q hq => by
    have h1 := List.all_eq_true.1 hops i (List.mem_range.2 hi)
    have ho' : l.toArray[i]? = some o := by simpa using ho
    rw [ho', hd] at h1
    simp only [Bool.and_eq_true] at h1
    have h2 := List.all_eq_true.1 h1.1.1.2 q (by simpa using hq)
    simp only [Bool.and_eq_true, decide_eq_true_eq] at h2
    simpa using h2.1.1.1)
  have he : Rs.getD i Stab.top = r := by
    rw [List.getD_eq_getElem?_getD]
    simp only [List.length_nil, Nat.zero_add] at hr
    rw [hr]
    rfl
  rw [he]
  exact hall w' hw'

/-- An operation whose value is one and the same. -/
theorem relWalk_det {w : World} {a : Act} {o : Oper} {l : List Oper} {d : List (Nat × Tmp)} {ds : List (Option (List (Nat × Tmp)))} {Rs : List Stab} {F : List Stab → Prop} {e : Value}
    (h1 : ∀ w', Gr w w' → withDeps Rs w' d a fun a' => relAt P ops o a' w' (Stab.det e)) (h2 : relWalk P ops w a l ds (Rs ++ [Stab.det e]) F) : relWalk P ops w a (o :: l) (some d :: ds) Rs F := ⟨_, h1, h2⟩
/-- An operation whose value is known up to a relation. -/
theorem relWalk_by {w : World} {a : Act} {o : Oper} {l : List Oper} {d : List (Nat × Tmp)} {ds : List (Option (List (Nat × Tmp)))} {Rs : List Stab} {F : List Stab → Prop} (r : Stab)
    (h1 : ∀ w', Gr w w' → withDeps Rs w' d a fun a' => relAt P ops o a' w' r) (h2 : relWalk P ops w a l ds (Rs ++ [r]) F) : relWalk P ops w a (o :: l) (some d :: ds) Rs F := ⟨r, h1, h2⟩
theorem relWalk_pre {w : World} {a : Act} {o : Oper} {l : List Oper} {ds : List (Option (List (Nat × Tmp)))} {Rs : List Stab} {F : List Stab → Prop} (h2 : relWalk P ops w a l ds (Rs ++ [Stab.top]) F) : relWalk P ops w a (o :: l) (none :: ds) Rs F := h2
theorem relWalk_end {w : World} {a : Act} {l : List Oper} {Rs : List Stab} {F : List Stab → Prop} (h : F Rs) : relWalk P ops w a l [] Rs F := by cases l <;> exact h

end
end Go.Proofs.Ytdjogfofedbohaa.Gw
end
section
/- cell.compare: places by their numbers, one behind the other. No condition. -/
namespace Go.Proofs.Ytdjogfofedbohaa
open Go.Shelf Go.RowKit Go.Lib Go.Sort

def cmpP_ren : Go.Shelf.Ren := ⟨fun | 5 => 95 | 7 => 115 | n => n, fun | 22 => 3 | 3 => 3 | 4 => 4 | n => n, fun n => n⟩
set_option maxRecDepth 100000 in
theorem cmpP_laid : SlLaysC2.n5 Try.prog cmpP_ren := {
  mixed := by kernel_rfl
  f5 := ⟨Try.f95.name, by decide, Try.func95.trans (congrArg some (by kernel_rfl))⟩
  f7 := ⟨Try.f115.name, by decide, Try.func115.trans (congrArg some (by kernel_rfl))⟩
  t3 := Try.underlying3
  a3 := Try.isAgg3
  z3 := Try.sizeOf3
  v3 := Try.zeroValue3
  t4 := Try.underlying4
  a4 := Try.isAgg4
  z4 := Try.sizeOf4
  v4 := Try.zeroValue4
  t22 := Try.underlying3
  a22 := Try.isAgg3
  z22 := Try.sizeOf3
  v22 := Try.zeroValue3 }

def or3 (a b c : Int) : Int := if a ≠ 0 then a else if b ≠ 0 then b else c
theorem compare_at (x y : Int) (w : World) : Calls Try.prog 95 #[.int .i64 x, .int .i64 y] w fun e w' => e = .returned (.int .i64 (compareInt x y)) ∧ w' = w := AnyG.cmp_Compare_int cmpP_laid x y w
set_option maxRecDepth 100000 in
theorem or_at {w : World} {g : Nat} {a b c : Int} (h : Blk w g 3 [.int .i64 a, .int .i64 b, .int .i64 c]) :
    Calls Try.prog 94 #[.slice (some ⟨g, 0, none⟩) 3 3] w fun e w' => e = .returned (.int .i64 (or3 a b c)) ∧ w' = w := by
  have c0 := h.cell 0
  have c1 := h.cell 1
  have c2 := h.cell 2
  clear h
  simp only [List.getElem?_cons_zero, List.getElem?_cons_succ] at c0 c1 c2
  go_enter Try.func94, Try.ntmps94
  go_wp2
  refine wp_loop_rounds 4 ?_
  rw [rounds_succ]
  go_wp2
  all_goals first
    | (rw [rounds_succ]
       go_wp2
       all_goals first
         | (rw [rounds_succ]
            go_wp2
            all_goals first
              | (rw [rounds_succ]
                 go_wp2
                 go_returns
                 exact ⟨by simp_all [or3], rfl⟩)
              | (go_returns
                 exact ⟨by simp_all [or3], rfl⟩))
         | (go_returns
            exact ⟨by simp_all [or3], rfl⟩))
    | (go_returns
       exact ⟨by simp_all [or3], rfl⟩)

def cmpPl (x y : Pl) : Int := or3 (compareInt x.1 y.1) (compareInt x.2.1 y.2.1) (compareInt x.2.2 y.2.2)
attribute [local go_sem] Gw.withDeps Gw.relAt Gw.relUpon Gw.Stab.det Gw.preAct Gw.pres Gw.isPre
/-- A slice of three ints in a block of its own. -/
def three (A B C : Int) : Gw.Stab := ⟨fun v w => ∃ g, v = .slice (some ⟨g, 0, none⟩) 3 3 ∧ Blk w g 3 [.int .i64 A, .int .i64 B, .int .i64 C], fun _ _ _ ⟨g, h1, h2⟩ hm => ⟨g, h1, h2.mod hm.mod (by simp)⟩⟩
set_option maxRecDepth 100000 in
set_option maxHeartbeats 4000000 in
theorem place_cmp (x y : Pl) (w : World) :
    Calls Try.prog 70 #[kagg x, kagg y] w fun e w' => e = .returned (.int .i64 (cmpPl x y)) ∧ Gw.Gr w w' := by
  have hcm := compare_at
  have hor := @or_at
  unfold cmpPl
  have hbx := Blk.new w 34 (kvs x)
  have hby := Blk.new (w.alloc (.cells (kvs x).toArray 34)) 34 (kvs y)
  have hbx2 := hbx.alloc (.cells (kvs y).toArray 34)
  have hsz : (w.alloc (.cells (kvs x).toArray 34)).heap.size = w.heap.size + 1 := by simp
  rw [hsz] at hby
  have hg0 := ((Gw.Gr.refl w).alloc (.cells (kvs x).toArray 34)).alloc (.cells (kvs y).toArray 34)
  have FACTS : ∀ w', Gw.Gr ((w.alloc (.cells (kvs x).toArray 34)).alloc (.cells (kvs y).toArray 34)) w' → w'.cell? ⟨w.heap.size, 0, none⟩ = some (.int .i64 x.1) ∧ w'.cell? ⟨w.heap.size, 1, none⟩ = some (.int .i64 x.2.1) ∧ w'.cell? ⟨w.heap.size, 2, none⟩ = some (.int .i64 x.2.2) ∧
      w'.cell? ⟨w.heap.size + 1, 0, none⟩ = some (.int .i64 y.1) ∧ w'.cell? ⟨w.heap.size + 1, 1, none⟩ = some (.int .i64 y.2.1) ∧ w'.cell? ⟨w.heap.size + 1, 2, none⟩ = some (.int .i64 y.2.2) := fun w' hm =>
    have h1 := hbx2.mod hm.mod (by simp)
    have h2 := hby.mod hm.mod (by simp)
    ⟨h1.cell 0, h1.cell 1, h1.cell 2, h2.cell 0, h2.cell 1, h2.cell 2⟩
  simp only [kvs] at FACTS hg0
  clear hbx hby hbx2 hsz
  unfold kagg
  go_enter Try.func70, Try.ntmps70
  go_wp2_with fail
  refine Gw.wp_region_rel [some [], some [(0, 5)], some [], some [(2, 7)], some [(1, 6), (3, 8)], some [], some [(5, 10)], some [], some [(7, 12)], some [(6, 11), (8, 13)], some [], some [(10, 15)], some [], some [(12, 17)], some [(11, 16), (13, 18)], some [(4, 9), (9, 14), (14, 19)], some [(15, 20)]]
    [(0, 5), (1, 6), (2, 7), (3, 8), (4, 9), (5, 10), (6, 11), (7, 12), (8, 13), (9, 14), (10, 15), (11, 16), (12, 17), (13, 18), (14, 19), (15, 20), (16, 21)] (by kernel_rfl) (by kernel_rfl) ?_
  iterate 15
    apply Gw.relWalk_det
    · intro w' hm
      have F := FACTS w' hm
      go_simp
      first
        | exact ⟨Gw.Gr.refl _, rfl⟩
        | exact Gw.Gr.refl _
        | rfl
        | (refine (hcm _ _ _).mono ?_
           rintro e w3 ⟨rfl, rfl⟩
           exact Gw.relPost_det (Gw.Gr.refl _))
  apply Gw.relWalk_by (three (compareInt x.1 y.1) (compareInt x.2.1 y.2.1) (compareInt x.2.2 y.2.2))
  · intro w' hm
    go_simp
    exact ⟨(Gw.Gr.refl _).alloc _, _, rfl, Blk.new _ 3 [.int .i64 (compareInt x.1 y.1), .int .i64 (compareInt x.2.1 y.2.1), .int .i64 (compareInt x.2.2 y.2.2)]⟩
  apply Gw.relWalk_det
  · intro w' hm
    simp only [Gw.withDeps, List.nil_append, List.cons_append, List.getD_cons_zero, List.getD_cons_succ, three]
    rintro v ⟨g, rfl, hb⟩
    go_simp
    refine (hor hb).mono ?_
    rintro e w3 ⟨rfl, rfl⟩
    exact Gw.relPost_det (Gw.Gr.refl _)
  refine Gw.relWalk_end ?_
  intro w' hm
  simp only [Gw.withDeps, List.nil_append, List.cons_append, List.getD_cons_zero, List.getD_cons_succ, Gw.Stab.det, three, forall_eq]
  rintro v ⟨g, rfl, hb⟩
  go_wp2_with fail
  refine NoPanic.normal ?_
  go_wp2
  go_returns
  exact ⟨rfl, hg0.trans hm⟩
theorem place_lays (blk off size : Nat) (w : World) : CmpLays Try.prog 70 #[] kvs 3 cmpPl blk off size w := fun _ _ _ _ x y => (place_cmp x y _).mono fun _ _ ⟨he, hg⟩ => ⟨he, hg⟩
end Go.Proofs.Ytdjogfofedbohaa
end
section
/- An executor for functions of the program over a small memory of named pieces: definitions alone. No condition. -/
namespace Go.Proofs.Ytdjogfofedbohaa

/-- A value in which blocks go by names. -/
inductive SV where
  | v (x : Value)
  | ptr (n off : Nat)
  | sl (n off idx len : Nat)
  | slE (n : Nat)
  | tptr (n i j : Nat)
  | tsl (n len : Nat)
  | mp (n : Nat)
  | ifc (t : TypeId) (x : SV)
  | agg (l : List SV)
  | tup (l : List SV)
  | clo (fn : Fn) (first cap : List SV)
  deriving Inhabited

/-- What stands behind a name: a block, and where in it; how many elements it has room for; of a table how wide and long it is; an address. -/
structure Spot where
  b : Nat
  cap : Nat
  off : Nat
  sz : Nat
  len : Nat
  ad : Option Addr

abbrev Names := Nat → Option Spot

mutual
def den (ρ : Names) : SV → Option Value
  | .v x => some x
  | .ptr n off => (ρ n).map fun e => .pointer (some ⟨e.b, e.off + off, none⟩)
  | .sl n off idx len => (ρ n).map fun e => .slice (some ⟨e.b, e.off + off, none⟩) len (e.cap - idx)
  | .slE n => (ρ n).map fun e => .slice e.ad 0 e.cap
  | .tptr n i j => match ρ n with
    | some e => if i < e.len then some (.pointer (some ⟨e.b, e.off + i * e.sz + j, none⟩)) else none
    | none => none
  | .tsl n len => (ρ n).map fun e => .slice e.ad len e.cap
  | .mp n => (ρ n).map fun e => .map (some e.b)
  | .ifc t x => (den ρ x).map (.iface t)
  | .agg l => (denL ρ l).map fun vs => .agg vs.toArray
  | .tup l => (denL ρ l).map fun vs => .tuple vs.toArray
  | .clo fn f c => match denL ρ f, denL ρ c with
    | some a, some b => some (.func fn a.toArray b.toArray)
    | _, _ => none
def denL (ρ : Names) : List SV → Option (List Value)
  | [] => some []
  | x :: l => match den ρ x, denL ρ l with
    | some a, some b => some (a :: b)
    | _, _ => none
end

inductive Chunk (R : Type) where
  | row (l : List SV) (t : TypeId)
  | tab (f : Nat → List SV) (len : Nat) (t : TypeId)
  | emp
  | rep (r : R)

structure St (R : Type) where
  hp : List (Nat × Chunk R)
  nx : Nat
  fr : List Nat
  wr : List Nat
  ask : List (Bool × Bool)
  ora : List (Option Bool)

inductive Res (R : Type) (α : Type) where
  | ok (a : α) (s : St R)
  | no (why : Nat) (ask : List (Bool × Bool))

def M (R : Type) (α : Type) := St R → Res R α

section
variable {R : Type} {α β : Type}
def M.ret (a : α) : M R α := fun s => .ok a s
def M.bind (m : M R α) (f : α → M R β) : M R β := fun s => match m s with
  | .ok a s' => f a s'
  | .no e l => .no e l
def M.fail (e : Nat) : M R α := fun s => .no e s.ask
def M.opt (e : Nat) : Option α → M R α
  | some a => M.ret a
  | none => M.fail e

def hget (n : Nat) : List (Nat × Chunk R) → Option (Chunk R)
  | [] => none
  | (m, c) :: r => match Nat.beq n m with
    | true => some c
    | false => hget n r
def hset (n : Nat) (c : Chunk R) : List (Nat × Chunk R) → List (Nat × Chunk R)
  | [] => []
  | (m, d) :: r => match Nat.beq n m with
    | true => (m, c) :: r
    | false => (m, d) :: hset n c r
def hdel (n : Nat) : List (Nat × Chunk R) → List (Nat × Chunk R)
  | [] => []
  | (m, d) :: r => match Nat.beq n m with
    | true => hdel n r
    | false => (m, d) :: hdel n r
def memN (n : Nat) : List Nat → Bool
  | [] => false
  | m :: r => match Nat.beq n m with
    | true => true
    | false => memN n r
def insN (n : Nat) (l : List Nat) : List Nat := match memN n l with
  | true => l
  | false => n :: l
def uniN (a b : List Nat) : List Nat := a.foldr insN b

def getC (n : Nat) : M R (Chunk R) := fun ⟨hp, nx, fr, wr, ak, oc⟩ => match hget n hp with
  | some c => .ok c ⟨hp, nx, insN n fr, wr, ak, oc⟩
  | none => .no 10 ak
def setC (n : Nat) (c : Chunk R) : M R Unit := fun ⟨hp, nx, fr, wr, ak, oc⟩ => match hget n hp with
  | some _ => .ok () ⟨hset n c hp, nx, insN n fr, insN n wr, ak, oc⟩
  | none => .no 11 ak
def delC (n : Nat) : M R Unit := fun ⟨hp, nx, fr, wr, ak, oc⟩ => match hget n hp with
  | some _ => .ok () ⟨hdel n hp, nx, insN n fr, insN n wr, ak, oc⟩
  | none => .no 12 ak
def newC (c : Chunk R) : M R Nat := fun ⟨hp, nx, fr, wr, ak, oc⟩ => .ok nx ⟨(nx, c) :: hp, nx + 1, fr, wr, ak, oc⟩
def askB (b : Bool) : M R Bool := fun ⟨hp, nx, fr, wr, ak, oc⟩ => match oc with
  | some o :: r => .ok o ⟨hp, nx, fr, wr, (b, o) :: ak, r⟩
  | none :: r => .ok b ⟨hp, nx, fr, wr, ak, r⟩
  | [] => .ok b ⟨hp, nx, fr, wr, ak, []⟩
/-- A test that must come out so. -/
def need (e : Nat) (b : Bool) : M R Unit := (askB b).bind fun
  | true => .ret ()
  | false => .fail e
/-- A test that is decided by the text. -/
def want (e : Nat) (b : Bool) : M R Unit := match b with
  | true => .ret ()
  | false => .fail e

def pureRun {α : Type} (P : Program) : Sem α → Option α
  | .pure a => some a
  | .program k => pureRun P (k P)
  | _ => none

def SV.cells : SV → List SV
  | .agg l => l
  | .v (.agg cs) => cs.toList.map .v
  | x => [x]
def SV.oneC : SV → Bool
  | .v x => x.oneCell
  | .agg _ => false
  | .tup _ => false
  | _ => true
def isAggV : SV → Bool
  | .agg _ => true
  | .v (.agg _) => true
  | _ => false
def szT (P : Program) (t : TypeId) : Option Nat := (P.info? t).map (·.size)
def zeroT (P : Program) (t : TypeId) : Option (List SV) := ((P.info? t).bind (·.zero)).map fun z => z.cells.toList.map .v
def aggT (P : Program) (t : TypeId) : Option Bool := match P.underlying t with
  | some (.struct _) => some true
  | some (.array _ _) => some true
  | some _ => some false
  | none => none
def cut (l : List SV) (off k : Nat) : Option (List SV) := match Nat.beq ((l.drop off).take k).length k with
  | true => some ((l.drop off).take k)
  | false => none
def partX (P : Program) (t : TypeId) (l : List SV) (off : Nat) : Option SV := match aggT P t with
  | some true => (szT P t).bind fun k => (cut l off k).map .agg
  | some false => l[off]?
  | none => none
def splice (l : List SV) (off : Nat) (cs : List SV) : List SV := l.take off ++ (cs ++ l.drop (off + cs.length))

def loadX (P : Program) (t : TypeId) : SV → M R SV
  | .ptr n off => (getC n).bind fun
    | .row l _ => .opt 20 (partX P t l off)
    | _ => .fail 21
  | .tptr n i j => (getC n).bind fun
    | .tab f _ _ => .opt 22 (partX P t (f i) j)
    | _ => .fail 23
  | _ => .fail 24
def storeX (P : Program) (t : TypeId) (v : SV) : SV → M R Unit
  | .ptr n off => (getC n).bind fun
    | .row l t' => (M.opt 30 (szT P t)).bind fun k => (want 31 (Nat.beq v.cells.length k && Nat.ble (off + k) l.length && v.cells.all SV.oneC)).bind fun _ =>
      setC n (.row (splice l off v.cells) t')
    | _ => .fail 32
  | _ => .fail 33

def fieldOf (P : Program) (s : TypeId) (f : Nat) : Option Field := match P.underlying s with
  | some (.struct fs) => fs[f]?
  | _ => none
def fieldAddrX (P : Program) (s : TypeId) (f : Nat) (x : SV) : Option SV := match fieldOf P s f with
  | some fd => match szT P fd.type with
    | some (_ + 1) => match x with
      | .ptr n off => some (.ptr n (off + fd.offset))
      | .tptr n i j => some (.tptr n i (j + fd.offset))
      | _ => none
    | _ => none
  | none => none
def fieldX (P : Program) (s : TypeId) (f : Nat) (x : SV) : Option SV := match fieldOf P s f with
  | some fd => match isAggV x with
    | true => partX P fd.type x.cells fd.offset
    | false => none
  | none => none

def fillX (place : Nat → Option (Nat × Nat)) (cells : List SV) : List (Nat × SV) → Option (List SV)
  | [] => some cells
  | (i, v) :: rest => match place i with
    | none => none
    | some (off, size) => match (Nat.beq v.cells.length size && Nat.ble (off + size) cells.length) with
      | true => fillX place (splice cells off v.cells) rest
      | false => none
def buildX (P : Program) (t : TypeId) (parts : List (Nat × SV)) : Option SV := match P.underlying t with
  | some (.struct fs) => match fs.all fun f => (szT P f.type).isSome with
    | true => (zeroT P t).bind fun z => (fillX (fun i => match fs[i]? with | some f => (szT P f.type).map fun k => (f.offset, k) | none => none) z parts).map .agg
    | false => none
  | some (.array _ elem) => (zeroT P t).bind fun z => (szT P elem).bind fun k => (fillX (fun i => some (i * k, k)) z parts).map .agg
  | _ => none
def zerosX (P : Program) (elem : TypeId) (n : Nat) : Option (List SV) := (P.info? elem).bind fun i => i.zero.bind fun z => match z.cells.size with
  | 0 => none
  | _ + 1 => some ((List.range n).map fun j => .v z.cells[j % z.cells.size]!)
def buildSliceX (P : Program) (t : TypeId) (len : Nat) (parts : List (Nat × SV)) : Option (TypeId × List SV) := match P.underlying t with
  | some (.slice elem) => (szT P elem).bind fun k => match (Nat.ble (len * k) 16777216 && !Nat.beq k 0) with
    | true => (zerosX P elem (len * k)).bind fun z => (fillX (fun i => some (i * k, k)) z parts).map fun l => (elem, l)
    | false => none
  | _ => none

def eqF (f : Field → Option Bool) : List Field → Option Bool
  | [] => some true
  | fd :: r => match fd.name != "_" with
    | true => match f fd, eqF f r with
      | some a, some b => some (a && b)
      | _, _ => none
    | false => eqF f r
def eqX (P : Program) : Nat → TypeId → List SV → List SV → Option Bool
  | 0, _, _, _ => none
  | d + 1, t, xs, ys => match P.underlying t with
    | some .bool => match xs, ys with
      | [.v (.bool a)], [.v (.bool b)] => some (a == b)
      | _, _ => none
    | some (.int _) => match xs, ys with
      | [.v (.int k a)], [.v (.int k' b)] => if k = k' then some (a == b) else none
      | _, _ => none
    | some .string => match xs, ys with
      | [.v (.string a)], [.v (.string b)] => some (a == b)
      | _, _ => none
    | some (.struct fs) => match P.stoodInHeld t with
      | true => none
      | false => eqF (fun fd => match szT P fd.type, aggT P fd.type with
        | some (k + 1), some g => match (g || Nat.beq k 0), cut xs fd.offset (k + 1), cut ys fd.offset (k + 1) with
          | true, some a, some b => eqX P d fd.type a b
          | _, _, _ => none
        | _, _ => none) fs.toList
    | _ => none
/-- Whether a value is nil, where one sees it. -/
def nilX (d : Option TypeDesc) (a b : SV) : Option Bool := match d, a, b with
  | some (.pointer _), .ptr _ _, .v (.pointer none) => some false
  | some (.pointer _), .v (.pointer none), .ptr _ _ => some false
  | some (.interface _), .ifc _ _, .v .nilIface => some false
  | some (.interface _), .v .nilIface, .ifc _ _ => some false
  | some (.func _ _ _), .clo _ _ _, .v .nilFunc => some false
  | some (.func _ _ _), .v .nilFunc, .clo _ _ _ => some false
  | some (.slice _), .sl _ _ _ _, .v (.slice none _ _) => some false
  | _, _, _ => none
def eqlX (P : Program) (t : TypeId) (a b : SV) : Option Bool := match nilX (P.underlying t) a b with
  | some r => some r
  | none => match isAggV a && isAggV b && !P.eqGuardType P.depth t && (match aggT P t with | some true => true | _ => false) with
    | true => eqX P 50 t a.cells b.cells
    | false => none
def noGuard : Value → Bool
  | .nilIface => false
  | .agg _ => false
  | _ => true
def eqNe (op : BinOp) (r : Option Bool) : Option SV := match op with
  | .eql => r.map fun r => .v (.bool r)
  | .neq => r.map fun r => .v (.bool !r)
  | _ => none
def binX (P : Program) (op : BinOp) (t : TypeId) (a b : SV) : Option SV := match a, b with
  | .v x, .v y => match noGuard x with
    | true => (pureRun P (binOp op t x y)).map .v
    | false => eqNe op (eqlX P t a b)
  | _, _ => eqNe op (eqlX P t a b)

def nilNil (d : Option TypeDesc) (a b : SV) (y : Operand) : Bool := match d, a, b, y with
  | some (.interface _), .v .nilIface, .v .nilIface, .const _ => true
  | _, _, _, _ => false
def lenX (P : Program) (t ty : TypeId) : SV → Option SV
  | .sl _ _ _ n => match P.underlying t with
    | some (.slice _) => some (.v (.int .i64 n))
    | _ => none
  | .tsl _ n => match P.underlying t with
    | some (.slice _) => some (.v (.int .i64 n))
    | _ => none
  | .slE _ => match P.underlying t with
    | some (.slice _) => some (.v (.int .i64 (0 : Nat)))
    | _ => none
  | .v x => (pureRun P (Builtin.len_ #[t] ty #[x])).map .v
  | _ => none

def idxX (P : Program) (t : TypeId) (x : SV) : SV → M R SV
  | .v (.int _ i) => match P.underlying t with
    | some (.slice elem) => match x with
      | .sl n off _ len => (need 40 (decide (0 ≤ i ∧ i < (len : Int)))).bind fun _ => (M.opt 41 (szT P elem)).bind fun k => .ret (.ptr n (off + i.toNat * k))
      | .tsl n len => (getC n).bind fun
        | .tab _ len' t' => (want 45 (Nat.beq t' elem && (P.info? elem).isSome)).bind fun _ => (need 42 (decide (0 ≤ i ∧ i < (len : Int) ∧ len = len'))).bind fun _ => .ret (.tptr n i.toNat 0)
        | _ => .fail 46
      | _ => .fail 43
    | some (.array len elem) => match x with
      | .ptr n off => (need 47 (decide (0 ≤ i ∧ i < (len : Int)))).bind fun _ => (M.opt 48 (szT P elem)).bind fun k => .ret (.ptr n (off + i.toNat * k))
      | _ => .fail 49
    | _ => .fail 50
  | _ => .fail 44

def intSV : SV → Option Int
  | .v (.int _ n) => some n
  | _ => none
def natOf : SV → Option Nat
  | .v (.int _ (.ofNat n)) => some n
  | _ => none
def sliceX (P : Program) (t : TypeId) (x : SV) (lo hi : Option SV) : M R SV := match P.underlying t with
  | some (.slice elem) => match x with
    | .sl n off idx len => (M.opt 60 (match lo with | some s => natOf s | none => some 0)).bind fun l => (M.opt 61 (match hi with | some s => natOf s | none => some len)).bind fun h =>
      (M.opt 62 (szT P elem)).bind fun k => (want 63 (Nat.ble l h && Nat.ble h len && !Nat.beq k 0)).bind fun _ => (getC n).bind fun
        | .row cs t' => (want 64 (Nat.beq t' elem && Nat.ble ((idx + len) * k) cs.length && Nat.beq off (idx * k))).bind fun _ => match Nat.beq l h with
          | true => (newC .emp).bind fun m => .ret (.slE m)
          | false => .ret (.sl n (off + l * k) (idx + l) (h - l))
        | _ => .fail 65
    | _ => .fail 66
  | _ => .fail 67

/-- The cells to be appended. -/
def srcX (k : Nat) : SV → M R (Nat × List SV)
  | .v (.slice none 0 _) => .ret (0, [])
  | .slE n => (getC n).bind fun
    | .emp => .ret (0, [])
    | _ => .fail 70
  | .sl n off _ len => (getC n).bind fun
    | .row l _ => (M.opt 71 (cut l off (len * k))).bind fun cs => .ret (len, cs)
    | _ => .fail 72
  | _ => .fail 73
def isSliceT (P : Program) (t : Option TypeId) : Bool := match t with
  | some t => match P.underlying t with
    | some (.slice _) => true
    | _ => false
  | none => false
def zeroFits (i : TypeInfo) : Bool := match i.zero with
  | some z => Nat.beq z.cells.size i.size
  | none => false
def appendX (P : Program) (t : TypeId) (tx : Option TypeId) (s x : SV) : M R SV := match P.underlying t with
  | some (.slice elem) => (M.opt 80 (P.info? elem)).bind fun i => (want 81 (!Nat.beq i.size 0 && !Nat.beq i.bytes 0 && zeroFits i && isSliceT P tx)).bind fun _ => (srcX i.size x).bind fun r => match s with
    | .v (.slice none 0 0) => match r.1 with
      | 0 => .ret (.v (.slice none 0 0))
      | m + 1 => (want 82 (r.2.all SV.oneC)).bind fun _ => (need 83 (decide ((m + 1) * i.bytes ≤ 140737488351232))).bind fun _ => (newC (.row r.2 elem)).bind fun n => .ret (.sl n 0 0 (m + 1))
    | .slE n => match r.1 with
      | 0 => .ret (.slE n)
      | _ + 1 => .fail 90
    | .sl n off idx len => (getC n).bind fun
      | .row l t' => (want 84 (Nat.beq t' elem && Nat.beq off (idx * i.size) && Nat.ble ((idx + len) * i.size) l.length)).bind fun _ => match r.1 with
        | 0 => .ret (.sl n off idx len)
        | m + 1 => (want 86 (Nat.beq l.length ((idx + len) * i.size) && r.2.all SV.oneC)).bind fun _ =>
          (need 85 (decide ((len + m + 1) * i.bytes ≤ 140737488351232))).bind fun _ => (delC n).bind fun _ =>
          (newC (.row (l.drop off ++ r.2) elem)).bind fun n' => .ret (.sl n' 0 0 (len + m + 1))
      | _ => .fail 87
    | _ => .fail 88
  | _ => .fail 89

def copyX (P : Program) (t : TypeId) (d x : SV) : M R SV := match P.underlying t with
  | some (.slice elem) => (M.opt 90 (P.info? elem)).bind fun i => (srcX i.size x).bind fun r => match d with
    | .sl n off _ len => match Nat.min r.1 len with
      | 0 => .ret (.v (.int .i64 0))
      | m + 1 => (M.opt 91 (cut r.2 0 ((m + 1) * i.size))).bind fun cs => (getC n).bind fun
        | .row l t' => (want 92 (Nat.ble (off + (m + 1) * i.size) l.length && cs.all SV.oneC)).bind fun _ =>
          (setC n (.row (splice l off cs) t')).bind fun _ => .ret (.v (.int .i64 (m + 1 : Nat)))
        | _ => .fail 93
    | _ => .fail 94
  | _ => .fail 95

def methodX (P : Program) (t : TypeId) (name : String) : Option FuncId := match P.underlying t with
  | some (.pointer _) => match P.info? t with
    | some i => match i.methods.find? (·.name == name) with
      | some m => match m.path.isEmpty, m.func with
        | true, some (f, true) => some f
        | _, _ => none
      | none => none
    | none => none
  | _ => none

/-- Operations that neither read nor write. -/
def plainX (P : Program) (ev : Operand → Option SV) : Op → Option SV
  | .move x => ev x
  | .assign x => ev x
  | .fieldAddr s x f => (ev x).bind (fieldAddrX P s f)
  | .field s x f => (ev x).bind (fieldX P s f)
  | .nilCheck x => (ev x).bind fun
    | .ptr n o => some (.ptr n o)
    | .tptr n i j => some (.tptr n i j)
    | .ifc t y => some (.ifc t y)
    | .clo (.func f) a b => some (.clo (.func f) a b)
    | .clo (.method name) (.ifc t y :: a) b => (methodX P t name).map fun _ => .clo (.method name) (.ifc t y :: a) b
    | _ => none
  | .build t parts => (parts.toList.mapM fun p => (ev p.2).map fun s => (p.1, s)).bind (buildX P t)
  | .binOp op t x y _ => (ev x).bind fun a => (ev y).bind fun b => match nilNil (P.underlying t) a b y with
    | true => eqNe op (some true)
    | false => binX P op t a b
  | .unOp op _ x => (ev x).bind fun
    | .v a => (pureRun P (Op.unary op a)).map .v
    | _ => none
  | .convert s d x => (ev x).bind fun
    | .v a => (pureRun P (convert s d a)).map .v
    | _ => none
  | .makeInterface t x => match P.underlying t with
    | some (.interface _) => none
    | some _ => (ev x).map (.ifc t)
    | none => none
  | .makeFunc fn a b => (a.toList.mapM ev).bind fun a => (b.toList.mapM ev).map fun b => .clo fn a b
  | .extract x i => (ev x).bind fun
    | .tup l => l[i]?
    | _ => none
  | _ => none

def okFn (P : Program) (g : FuncId) : Bool := match P.funcs[g]? with
  | some fn => fn.body.isSome && fn.name != "runtime.NumGoroutine"
  | none => false
def undefX : SV := .v undef
/-- What else the executor is given: calls, and operations of structures of a kind. -/
structure Hk (R : Type) where
  fn : FuncId → List SV → M R SV
  ext : (Operand → Option SV) → Oper → Option (M R SV)
def builtinX (P : Program) : Builtin → List TypeId → TypeId → List SV → M R SV
  | .len, [t], ty, [x] => .opt 123 (lenX P t ty x)
  | .append, [t, tx], _, [s, x] => appendX P t (some tx) s x
  | .copy, [t, _], _, [d, x] => copyX P t d x
  | _, _, _, _ => .fail 126
/-- One operation: its value. -/
def opX (P : Program) (call : Hk R) (ev : Operand → Option SV) (o : Oper) : M R SV := match call.ext ev o with
  | some m => m
  | none => match o.op with
  | .pick c a b => (M.opt 100 (ev c)).bind fun
    | .v (.bool t) => (askB t).bind fun
      | true => .opt 101 (ev a)
      | false => .opt 102 (ev b)
    | _ => .fail 103
  | .load t x => (M.opt 104 (ev x)).bind (loadX P t)
  | .store t x y => (M.opt 105 (ev x)).bind fun a => (M.opt 106 (ev y)).bind fun v => (storeX P t v a).bind fun _ => .ret undefX
  | .alloc t => (M.opt 107 (zeroT P t)).bind fun z => (M.opt 141 (szT P t)).bind fun k => (want 142 (Nat.beq z.length k)).bind fun _ => (newC (.row z t)).bind fun n => .ret (.ptr n 0)
  | .box t x => (M.opt 108 (ev x)).bind fun v => (M.opt 143 (szT P t)).bind fun k => (want 144 (Nat.beq v.cells.length k)).bind fun _ => (newC (.row v.cells t)).bind fun n => .ret (.ptr n 0)
  | .buildSlice t len parts => (M.opt 109 (parts.toList.mapM fun p => (ev p.2).map fun s => (p.1, s))).bind fun ps => (M.opt 110 (buildSliceX P t len ps)).bind fun r =>
    (newC (.row r.2 r.1)).bind fun n => .ret (.sl n 0 0 len)
  | .makeSlice t len cap => (M.opt 111 ((ev len).bind intSV)).bind fun zn => (M.opt 112 ((ev cap).bind intSV)).bind fun zc => match P.underlying t with
    | some (.slice elem) => (M.opt 113 (P.info? elem)).bind fun i => (need 114 (decide (0 ≤ zn) && decide (0 ≤ zc) && (Nat.ble zn.toNat zc.toNat && Nat.ble (zc.toNat * i.bytes) 140737488351232 && Nat.ble zc.toNat 140737488351232 && !Nat.beq i.size 0))).bind fun _ =>
      (M.opt 115 (zerosX P elem (zc.toNat * i.size))).bind fun z => (newC (.row z elem)).bind fun m => .ret (.sl m 0 0 zn.toNat)
    | _ => .fail 116
  | .indexAddr t x i => (M.opt 117 (ev x)).bind fun a => (M.opt 118 (ev i)).bind (idxX P t a)
  | .slice t x lo hi none => (M.opt 119 (ev x)).bind fun a => (M.opt 120 (match lo with | some l => (ev l).map some | none => some none)).bind fun l =>
    (M.opt 121 (match hi with | some h => (ev h).map some | none => some none)).bind fun h => sliceX P t a l h
  | .call c => (M.opt 122 (c.args.toList.mapM ev)).bind fun args => match c.callee with
    | .builtin b => builtinX P b c.argTypes.toList o.type args
    | .value f => (M.opt 127 (ev f)).bind fun
      | .v (.func (.func g) a b) => (want 133 (okFn P g && Nat.beq a.size 0 && Nat.beq b.size 0)).bind fun _ => call.fn g args
      | .clo (.func g) a b => (want 134 (okFn P g)).bind fun _ => call.fn g (a ++ (args ++ b))
      | _ => .fail 128
    | .invoke r name => (M.opt 129 (ev r)).bind fun
      | .ifc t x => (M.opt 130 (methodX P t name)).bind fun g => (want 135 (okFn P g)).bind fun _ => call.fn g (x :: args)
      | _ => .fail 131
  | op => .opt 140 (plainX P ev op)

abbrev Env := List (Nat × SV)
def elook (t : Nat) : Env → Option SV
  | [] => none
  | (k, s) :: r => match Nat.beq t k with
    | true => some s
    | false => elook t r
def evX (e : Env) : Operand → Option SV
  | .tmp t => elook t e
  | .const c => some (.v c)
  | .func f => some (.v (.func (.func f) #[] #[]))
  | .global _ => none
def putX (d : Option Tmp) (s : SV) (e : Env) : Env := match d with
  | some t => (t, s) :: e
  | none => e

/-- The names of an environment as bits; and those of it alone, each once: what goes into a loop's next round. -/
def maskE : Env → Nat
  | [] => 0
  | (k, _) :: r => Nat.lor (maskE r) (Nat.pow 2 k)
def pruneE (m : Nat) : Env → Env
  | [] => []
  | (k, s) :: r => match Nat.testBit m k with
    | true => (k, s) :: pruneE (Nat.xor m (Nat.pow 2 k)) r
    | false => pruneE m r

/-- As evX, but of those temporaries alone. -/
def evR (l : List Tmp) (e : Env) : Operand → Option SV
  | .tmp t => match memN t l with
    | true => elook t e
    | false => none
  | x => evX e x

def boolOf : SV → Option Bool
  | .v (.bool b) => some b
  | _ => none
/-- One operation of a region, if it is asked for. -/
def oneX (P : Program) (call : Hk R) (ops : Array Oper) (o : Oper) (ev : Operand → Option SV) : M R SV := match o.guard with
  | none => opX P call ev o
  | some (j, w) => match (ops[j]?).bind (·.dst) with
    | some d => (M.opt 150 ((ev (.tmp d)).bind boolOf)).bind fun b => (askB b).bind fun t => match t == w with
      | true => opX P call ev o
      | false => .ret undefX
    | none => .fail 153

def seqX (P : Program) (call : Hk R) (ops : Array Oper) (sz : Nat) : List Oper → Env → M R Env
  | [], e => .ret e
  | o :: r, e => (want 151 (match o.dst with | some d => Nat.blt d sz | none => true)).bind fun _ => (oneX P call ops o (evX e)).bind fun s => seqX P call ops sz r (putX o.dst s e)

/-- What an operation of a region whose order is open has touched. -/
structure Log where
  fr : List Nat
  wr : List Nat
  lo : Nat
  hi : Nat
  looks : List Tmp
  dst : Option Tmp

def touches (l : Log) (n : Nat) : Bool := memN n l.wr || (Nat.ble l.lo n && Nat.blt n l.hi)
/-- Whether two operations, the first ahead in the text, must not change places. -/
def clash (a b : Log) : Bool := b.fr.any (touches a) || a.fr.any (touches b) ||
  (match a.dst with | some d => memN d b.looks || (match b.dst with | some d' => Nat.beq d d' | none => false) | none => false) || (match b.dst with | some d => memN d a.looks | none => false)

def St.bare (st : St R) : St R := match st with
  | ⟨hp, nx, _, _, ak, oc⟩ => ⟨hp, nx, [], [], ak, oc⟩
def St.join (t s : St R) : St R := match t, s with
  | ⟨hp, nx, fr, wr, ak, oc⟩, ⟨_, _, fr', wr', _, _⟩ => ⟨hp, nx, uniN fr fr', uniN wr wr', ak, oc⟩
def logOf (s t : St R) (ops : Array Oper) (o : Oper) : Log := ⟨t.fr, t.wr, s.nx, t.nx, o.looksAt ops, o.dst⟩
def drawX (P : Program) (call : Hk R) (ops : Array Oper) (sz : Nat) : List Oper → List Log → Env → M R (Env × List Log)
  | [], ls, e => .ret (e, ls)
  | o :: r, ls, e => (want 152 ((match o.dst with | some d => Nat.blt d sz | none => true) && o.after.all fun e => !Region.binds .any e || Nat.blt e.on ls.length)).bind fun _ => fun st =>
    match oneX P call ops o (evR (o.looksAt ops) e) st.bare with
    | .ok s t => drawX P call ops sz r (logOf st t ops o :: ls) (putX o.dst s e) (t.join st)
    | .no w l => .no w l

/-- Those that stand ahead of an operation by the region's edges, as bits. -/
def maskOf (acc : List Nat) (o : Oper) : Nat := o.after.toList.foldr (fun e s => match Region.binds .any e && Nat.blt e.on acc.length with
  | true => (s ||| 2 ^ e.on) ||| acc.getD (acc.length - 1 - e.on) 0
  | false => s) 0
def masks : List Oper → List Nat → List Nat
  | [], acc => acc
  | o :: r, acc => masks r (maskOf acc o :: acc)
/-- Each pair that may not change places stands in order by the region's edges. -/
def ordered : List Nat → List Log → Bool
  | _, [] => true
  | [], _ :: _ => false
  | m :: ms, l :: r => (r.zipIdx.all fun p => !clash p.1 l || m.testBit (r.length - 1 - p.2)) && ordered ms r

inductive Ex where
  | nor
  | ret
  | out (id : Nat)

def resX (P : Program) (e : Env) : List ResultVar → M R (List SV)
  | [] => .ret []
  | .tmp t :: r => (M.opt 162 (elook t e)).bind fun s => (resX P e r).bind fun l => .ret (s :: l)
  | .cell a t :: r => (M.opt 165 (elook a e)).bind fun x => (loadX P t x).bind fun s => (resX P e r).bind fun l => .ret (s :: l)
def oneOf : List SV → SV
  | [x] => x
  | l => .tup l

/-- Names below a bound, or among those of l. -/
def ptrsOf : SV → List Nat
  | .ptr n _ => [n]
  | .sl n _ _ _ => [n]
  | .slE n => [n]
  | .mp n => [n]
  | .ifc _ x => ptrsOf x
  | _ => []
def ptrsAll : SV → List Nat
  | .agg l => l.foldr (fun s a => ptrsOf s ++ a) []
  | .tup l => l.foldr (fun s a => ptrsAllOf s ++ a) []
  | .clo _ a b => a.foldr (fun s a => ptrsOf s ++ a) (b.foldr (fun s a => ptrsOf s ++ a) [])
  | x => ptrsOf x
where
  ptrsAllOf : SV → List Nat
  | .agg l => l.foldr (fun s a => ptrsOf s ++ a) []
  | x => ptrsOf x
def chunkPtrs : Chunk R → List Nat
  | .row l _ => l.foldr (fun s a => ptrsAll s ++ a) []
  | _ => []
/-- Those from lo on that one comes to. -/
def reachX (lo : Nat) (hp : List (Nat × Chunk R)) : Nat → List Nat → List Nat → List Nat
  | 0, _, seen => seen
  | _ + 1, [], seen => seen
  | k + 1, n :: todo, seen => match Nat.blt n lo || memN n seen with
    | true => reachX lo hp k todo seen
    | false => match hget n hp with
      | some c => reachX lo hp k (chunkPtrs c ++ todo) (n :: seen)
      | none => reachX lo hp k todo seen
def keepX (lo : Nat) (keep : List Nat) : List (Nat × Chunk R) → List (Nat × Chunk R)
  | [] => []
  | (n, c) :: r => match Nat.blt n lo || memN n keep with
    | true => (n, c) :: keepX lo keep r
    | false => keepX lo keep r
def cutN (lo : Nat) (base l : List Nat) : List Nat := l.filter fun n => Nat.blt n lo || memN n base
/-- Behind a call: what it made, and nobody comes to, is forgotten. -/
def sweepSt (st : St R) (s : SV) : St R → St R := fun ⟨hp, nx, fr, wr, ak, oc⟩ => match st with
  | ⟨_, lo, fr0, wr0, _, _⟩ => match Nat.beq lo nx with
    | true => ⟨hp, nx, fr, wr, ak, oc⟩
    | false => ⟨keepX lo (reachX lo hp 1000 (wr.foldr (fun n a => match Nat.blt n lo with | true => (match hget n hp with | some c => chunkPtrs c ++ a | none => a) | false => a) (ptrsAll s)) []) hp, nx, cutN lo fr0 fr, cutN lo wr0 wr, ak, oc⟩

/-! Values reckoned out: for the kernel's sake; each is the value itself. -/
def fNat {β : Type} (n : Nat) (k : Nat → β) : β := match n with
  | 0 => k 0
  | m + 1 => k (m + 1)
def fInt {β : Type} (z : Int) (k : Int → β) : β := match z with
  | .ofNat n => fNat n fun m => k (.ofNat m)
  | .negSucc n => fNat n fun m => k (.negSucc m)
def fBool {β : Type} (b : Bool) (k : Bool → β) : β := match b with
  | true => k true
  | false => k false
def fVal {β : Type} (x : Value) (k : Value → β) : β := match x with
  | .int kd z => fInt z fun z => k (.int kd z)
  | .bool b => fBool b fun b => k (.bool b)
  | x => k x
def fC0 {β : Type} (s : SV) (k : SV → β) : β := match s with
  | .v x => fVal x fun x => k (.v x)
  | .ptr n o => fNat n fun n => fNat o fun o => k (.ptr n o)
  | .sl n o i l => fNat n fun n => fNat o fun o => fNat i fun i => fNat l fun l => k (.sl n o i l)
  | .mp n => fNat n fun n => k (.mp n)
  | .slE n => fNat n fun n => k (.slE n)
  | x => k x
def fL0 {β : Type} : List SV → (List SV → β) → β
  | [], k => k []
  | x :: l, k => fC0 x fun x => fL0 l fun l => k (x :: l)
def fC1 {β : Type} (s : SV) (k : SV → β) : β := match s with
  | .ifc t x => fC0 x fun x => k (.ifc t x)
  | .clo fn a b => fL0 a fun a => fL0 b fun b => k (.clo fn a b)
  | x => fC0 x k
def fL1 {β : Type} : List SV → (List SV → β) → β
  | [], k => k []
  | x :: l, k => fC1 x fun x => fL1 l fun l => k (x :: l)
def fS {β : Type} (s : SV) (k : SV → β) : β := match s with
  | .agg l => fL1 l fun l => k (.agg l)
  | x => fC1 x k
def fLS {β : Type} : List SV → (List SV → β) → β
  | [], k => k []
  | x :: l, k => fS x fun x => fLS l fun l => k (x :: l)
def fTop {β : Type} (s : SV) (k : SV → β) : β := match s with
  | .tup l => fLS l fun l => k (.tup l)
  | x => fS x k
def fNats {β : Type} : List Nat → (List Nat → β) → β
  | [], k => k []
  | x :: l, k => fNat x fun x => fNats l fun l => k (x :: l)
def fChunk {β : Type} (fR : R → (R → β) → β) (c : Chunk R) (k : Chunk R → β) : β := match c with
  | .row l t => fL1 l fun l => k (.row l t)
  | .rep r => fR r fun r => k (.rep r)
  | c => k c
def fHp {β : Type} (fR : R → (R → β) → β) : List (Nat × Chunk R) → (List (Nat × Chunk R) → β) → β
  | [], k => k []
  | (n, c) :: r, k => fNat n fun n => fChunk fR c fun c => fHp fR r fun r => k ((n, c) :: r)
def fSt {β : Type} (fR : R → (R → β) → β) (st : St R) (k : St R → β) : β := match st with
  | ⟨hp, nx, fr, wr, ak, oc⟩ => fHp fR hp fun hp => fNat nx fun nx => fNats fr fun fr => fNats wr fun wr => k ⟨hp, nx, fr, wr, ak, oc⟩
section
variable {β : Type}
theorem fNat_eq (n : Nat) (k : Nat → β) : fNat n k = k n := by cases n <;> rfl
theorem fInt_eq (z : Int) (k : Int → β) : fInt z k = k z := by cases z <;> simp [fInt, fNat_eq]
theorem fBool_eq (b : Bool) (k : Bool → β) : fBool b k = k b := by cases b <;> rfl
theorem fVal_eq (x : Value) (k : Value → β) : fVal x k = k x := by cases x <;> simp [fVal, fInt_eq, fBool_eq]
theorem fC0_eq (s : SV) (k : SV → β) : fC0 s k = k s := by cases s <;> simp [fC0, fVal_eq, fNat_eq]
theorem fL0_eq (l : List SV) (k : List SV → β) : fL0 l k = k l := by
  induction l generalizing k with
  | nil => rfl
  | cons x l ih => simp [fL0, fC0_eq, ih]
theorem fC1_eq (s : SV) (k : SV → β) : fC1 s k = k s := by cases s <;> simp [fC1, fC0_eq, fL0_eq]
theorem fL1_eq (l : List SV) (k : List SV → β) : fL1 l k = k l := by
  induction l generalizing k with
  | nil => rfl
  | cons x l ih => simp [fL1, fC1_eq, ih]
theorem fS_eq (s : SV) (k : SV → β) : fS s k = k s := by cases s <;> simp [fS, fC1_eq, fL1_eq]
theorem fLS_eq (l : List SV) (k : List SV → β) : fLS l k = k l := by
  induction l generalizing k with
  | nil => rfl
  | cons x l ih => simp [fLS, fS_eq, ih]
theorem fTop_eq (s : SV) (k : SV → β) : fTop s k = k s := by cases s <;> simp [fTop, fS_eq, fLS_eq]
theorem fNats_eq (l : List Nat) (k : List Nat → β) : fNats l k = k l := by
  induction l generalizing k with
  | nil => rfl
  | cons x l ih => simp [fNats, fNat_eq, ih]
theorem fSt_eq {fR : R → (R → β) → β} (h : ∀ r k, fR r k = k r) (st : St R) (k : St R → β) : fSt fR st k = k st := by
  have hc : ∀ (c : Chunk R) (k : Chunk R → β), fChunk fR c k = k c := fun c k => by cases c <;> simp [fChunk, fL1_eq, h]
  have hh : ∀ (l : List (Nat × Chunk R)) (k : List (Nat × Chunk R) → β), fHp fR l k = k l := fun l => by
    induction l with
    | nil => exact fun _ => rfl
    | cons p l ih => exact fun k => by simp [fHp, fNat_eq, hc, ih]
  obtain ⟨hp, nx, fr, wr, ak, oc⟩ := st
  simp [fSt, hh, fNat_eq, fNats_eq]
end
/-- A state and a value reckoned out, as far as it goes. -/
abbrev Tidy (R : Type) := St R → SV → (St R → SV → Res R SV) → Res R SV
/-- All numbers too. -/
def tidyF (fR : R → (R → Res R SV) → Res R SV) : Tidy R := fun st s k => fSt fR st fun st => fTop s fun s => k st s
mutual
/-- Names alone. -/
def gS {β : Type} : SV → (SV → β) → β
  | .v x, k => k (.v x)
  | .ptr n o, k => fNat n fun n => k (.ptr n o)
  | .sl n o i l, k => fNat n fun n => k (.sl n o i l)
  | .slE n, k => fNat n fun n => k (.slE n)
  | .tptr n i j, k => fNat n fun n => k (.tptr n i j)
  | .tsl n l, k => fNat n fun n => k (.tsl n l)
  | .mp n, k => fNat n fun n => k (.mp n)
  | .ifc t x, k => gS x fun x => k (.ifc t x)
  | .agg l, k => gL l fun l => k (.agg l)
  | .tup l, k => gL l fun l => k (.tup l)
  | .clo f a b, k => gL a fun a => gL b fun b => k (.clo f a b)
def gL {β : Type} : List SV → (List SV → β) → β
  | [], k => k []
  | x :: l, k => gS x fun x => gL l fun l => k (x :: l)
end
def gHp {β : Type} : List (Nat × Chunk R) → (List (Nat × Chunk R) → β) → β
  | [], k => k []
  | (n, c) :: r, k => fNat n fun n => match c with
    | .row l t => gL l fun l => gHp r fun r => k ((n, .row l t) :: r)
    | .rep x => gHp r fun r => k ((n, .rep x) :: r)
    | .emp => gHp r fun r => k ((n, .emp) :: r)
    | .tab f len t => gHp r fun r => k ((n, .tab f len t) :: r)
/-- Names and shapes alone. -/
def tidyG : Tidy R := fun st s k => match st with
  | ⟨hp, nx, fr, wr, ak, oc⟩ => gHp hp fun hp => fNat nx fun nx => fNats fr fun fr => fNats wr fun wr => gS s fun s => k ⟨hp, nx, fr, wr, ak, oc⟩ s
mutual
theorem gS_eq {β : Type} : ∀ (s : SV) (k : SV → β), gS s k = k s
  | .v _, k => by simp only [gS]
  | .ptr _ _, k => by simp only [gS, fNat_eq]
  | .sl _ _ _ _, k => by simp only [gS, fNat_eq]
  | .slE _, k => by simp only [gS, fNat_eq]
  | .tptr _ _ _, k => by simp only [gS, fNat_eq]
  | .tsl _ _, k => by simp only [gS, fNat_eq]
  | .mp _, k => by simp only [gS, fNat_eq]
  | .ifc _ x, k => by simp only [gS, gS_eq x]
  | .agg l, k => by simp only [gS, gL_eq l]
  | .tup l, k => by simp only [gS, gL_eq l]
  | .clo _ a b, k => by simp only [gS, gL_eq a, gL_eq b]
theorem gL_eq {β : Type} : ∀ (l : List SV) (k : List SV → β), gL l k = k l
  | [], k => by simp only [gL]
  | x :: l, k => by simp only [gL, gS_eq x, gL_eq l]
end
theorem gHp_eq {β : Type} : ∀ (hp : List (Nat × Chunk R)) (k : List (Nat × Chunk R) → β), gHp hp k = k hp
  | [], k => by simp only [gHp]
  | (n, c) :: r, k => by cases c <;> simp only [gHp, fNat_eq, gL_eq, gHp_eq r]
theorem tidyG_eq (st : St R) (s : SV) (k : St R → SV → Res R SV) : tidyG st s k = k st s := by
  obtain ⟨hp, nx, fr, wr, ak, oc⟩ := st
  simp only [tidyG, gHp_eq, fNat_eq, fNats_eq, gS_eq]
theorem tidyF_eq {fR : R → (R → Res R SV) → Res R SV} (h : ∀ r k, fR r k = k r) (st : St R) (s : SV) (k : St R → SV → Res R SV) : tidyF fR st s k = k st s := by
  simp only [tidyF, fSt_eq h, fTop_eq]
/-- The sweeping; what stays is reckoned out. -/
def sweepX (tidy : Option (Tidy R)) (st : St R) (s : SV) : M R SV := fun st1 => match tidy with
  | some f => f (sweepSt st s st1) s fun st2 s2 => .ok s2 st2
  | none => .ok s (sweepSt st s st1)

def stNow : M R (St R) := fun s => .ok s s

/-- Calls, and operations, that are known by themselves. -/
structure Lib (R : Type) where
  prim : FuncId → List SV → Option (M R SV)
  ext : (Operand → Option SV) → Oper → Option (M R SV)
  tidy : Option (Tidy R) := none

def callF (P : Program) (lib : Lib R) (run : Nat → Code → Env → M R (Ex × Env)) (f : FuncId) (args : List SV) : M R SV := match lib.prim f args with
  | some m => m
  | none => match P.funcs[f]? with
    | some fn => match fn.body with
      | some c => stNow.bind fun s0 => (want 160 (Nat.ble args.length fn.ntmps)).bind fun _ => (run fn.ntmps c (args.zipIdx.map fun p => (p.2, p.1))).bind fun r => match r.1 with
        | .out _ => .fail 161
        | _ => (resX P r.2 fn.results.toList).bind fun l => sweepX lib.tidy s0 (oneOf l)
      | none => .fail 163
    | none => .fail 164

def codeF (P : Program) (call : Hk R) (run : Nat → Code → Env → M R (Ex × Env)) (sz : Nat) : Code → Env → M R (Ex × Env)
  | .skip, e => .ret (.nor, e)
  | .region _ ops false, e => (seqX P call ops sz ops.toList e).bind fun e => .ret (.nor, e)
  | .region _ ops true, e => (drawX P call ops sz ops.toList [] e).bind fun r => (want 170 (ordered (masks ops.toList []) r.2)).bind fun _ => .ret (.nor, r.1)
  | .seq a b, e => (run sz a e).bind fun r => match r.1 with
    | .nor => run sz b r.2
    | x => .ret (x, r.2)
  | .cond c a b, e => (M.opt 171 (evX e c)).bind fun
    | .v (.bool t) => (askB t).bind fun
      | true => run sz a e
      | false => run sz b e
    | _ => .fail 172
  | .block id c, e => (run sz c e).bind fun r => match r.1 with
    | .out id' => match Nat.beq id' id with
      | true => .ret (.nor, r.2)
      | false => .ret (.out id', r.2)
    | x => .ret (x, r.2)
  | .loop c, e => (run sz c e).bind fun r => match r.1 with
    | .nor => run sz (.loop c) (pruneE (maskE e) r.2)
    | x => .ret (x, r.2)
  | .exit id, e => .ret (.out id, e)
  | .ret, e => .ret (.ret, e)
  | _, _ => .fail 173

def runX (P : Program) (lib : Lib R) : Nat → Nat → Code → Env → M R (Ex × Env)
  | 0, _, _, _ => .fail 180
  | n + 1, sz, c, e => codeF P ⟨callF P lib (runX P lib n), lib.ext⟩ (runX P lib n) sz c e
def callX (P : Program) (lib : Lib R) (n : Nat) (f : FuncId) (args : List SV) : M R SV := callF P lib (runX P lib n) f args
end
end Go.Proofs.Ytdjogfofedbohaa
end
section
/- The executor's memory and the machine's: what it means that one stands for the other, and that a piece of code turns the one as it turns the other. No condition. -/
namespace Go.Proofs.Ytdjogfofedbohaa

def Names.le (ρ ρ' : Names) : Prop := ∀ n e, ρ n = some e → ρ' n = some e
theorem Names.le.refl (ρ : Names) : ρ.le ρ := fun _ _ h => h
theorem Names.le.trans {ρ ρ' ρ'' : Names} (h : ρ.le ρ') (k : ρ'.le ρ'') : ρ.le ρ'' := fun n e x => k n e (h n e x)

mutual
theorem den_mono {ρ ρ' : Names} (h : ρ.le ρ') : ∀ (s : SV) (x : Value), den ρ s = some x → den ρ' s = some x
  | .v _, _, hx => hx
  | .ptr n off, x, hx => by
    simp only [den, Option.map_eq_some_iff] at hx ⊢
    obtain ⟨e, he, hx⟩ := hx
    exact ⟨e, h n e he, hx⟩
  | .sl n off idx len, x, hx => by
    simp only [den, Option.map_eq_some_iff] at hx ⊢
    obtain ⟨e, he, hx⟩ := hx
    exact ⟨e, h n e he, hx⟩
  | .slE n, x, hx => by
    simp only [den, Option.map_eq_some_iff] at hx ⊢
    obtain ⟨e, he, hx⟩ := hx
    exact ⟨e, h n e he, hx⟩
  | .tptr n i j, x, hx => by
    simp only [den] at hx ⊢
    cases hn : ρ n with
    | none => rw [hn] at hx; cases hx
    | some e =>
      rw [hn] at hx
      rw [h n e hn]
      exact hx
  | .tsl n len, x, hx => by
    simp only [den, Option.map_eq_some_iff] at hx ⊢
    obtain ⟨e, he, hx⟩ := hx
    exact ⟨e, h n e he, hx⟩
  | .mp n, x, hx => by
    simp only [den, Option.map_eq_some_iff] at hx ⊢
    obtain ⟨e, he, hx⟩ := hx
    exact ⟨e, h n e he, hx⟩
  | .ifc t y, x, hx => by
    simp only [den, Option.map_eq_some_iff] at hx ⊢
    obtain ⟨e, he, hx⟩ := hx
    exact ⟨e, den_mono h y e he, hx⟩
  | .agg l, x, hx => by
    simp only [den, Option.map_eq_some_iff] at hx ⊢
    obtain ⟨e, he, hx⟩ := hx
    exact ⟨e, denL_mono h l e he, hx⟩
  | .tup l, x, hx => by
    simp only [den, Option.map_eq_some_iff] at hx ⊢
    obtain ⟨e, he, hx⟩ := hx
    exact ⟨e, denL_mono h l e he, hx⟩
  | .clo fn f c, x, hx => by
    simp only [den] at hx ⊢
    cases h1 : denL ρ f with
    | none => rw [h1] at hx; cases hx
    | some a =>
      cases h2 : denL ρ c with
      | none => rw [h1, h2] at hx; cases hx
      | some b =>
        rw [h1, h2] at hx
        rw [denL_mono h f a h1, denL_mono h c b h2]
        exact hx
theorem denL_mono {ρ ρ' : Names} (h : ρ.le ρ') : ∀ (l : List SV) (x : List Value), denL ρ l = some x → denL ρ' l = some x
  | [], _, hx => hx
  | s :: l, x, hx => by
    simp only [denL] at hx ⊢
    cases h1 : den ρ s with
    | none => rw [h1] at hx; cases hx
    | some a =>
      cases h2 : denL ρ l with
      | none => rw [h1, h2] at hx; cases hx
      | some b =>
        rw [h1, h2] at hx
        rw [den_mono h s a h1, denL_mono h l b h2]
        exact hx
end

section
variable {ρ : Names}
theorem denL_cons {s : SV} {l : List SV} {vs : List Value} : denL ρ (s :: l) = some vs ↔ ∃ a b, den ρ s = some a ∧ denL ρ l = some b ∧ vs = a :: b := by
  simp only [denL]
  cases h1 : den ρ s <;> cases h2 : denL ρ l <;> simp [eq_comm]
theorem denL_length : ∀ {l : List SV} {vs : List Value}, denL ρ l = some vs → vs.length = l.length
  | [], vs, h => by simp only [denL, Option.some.injEq] at h; subst h; rfl
  | s :: l, vs, h => by
    obtain ⟨a, b, _, hb, rfl⟩ := denL_cons.1 h
    simp [denL_length hb]
theorem denL_append : ∀ {l m : List SV} {vs : List Value}, denL ρ (l ++ m) = some vs ↔ ∃ a b, denL ρ l = some a ∧ denL ρ m = some b ∧ vs = a ++ b
  | [], m, vs => by simp [denL]
  | s :: l, m, vs => by
    rw [List.cons_append, denL_cons]
    constructor
    · rintro ⟨a, b, h1, h2, rfl⟩
      obtain ⟨c, d, h3, h4, rfl⟩ := denL_append.1 h2
      exact ⟨a :: c, d, denL_cons.2 ⟨a, c, h1, h3, rfl⟩, h4, rfl⟩
    · rintro ⟨a, b, h1, h2, rfl⟩
      obtain ⟨c, d, h3, h4, rfl⟩ := denL_cons.1 h1
      exact ⟨c, d ++ b, h3, denL_append.2 ⟨d, b, h4, h2, rfl⟩, rfl⟩
theorem denL_take {l : List SV} {vs : List Value} (h : denL ρ l = some vs) (k : Nat) : denL ρ (l.take k) = some (vs.take k) := by
  rw [← List.take_append_drop k l, denL_append] at h
  obtain ⟨a, b, h1, h2, rfl⟩ := h
  rw [h1]
  congr 1
  have := denL_length h1
  rw [List.take_append]
  simp only [List.length_take] at this
  have hl := denL_length h2
  simp only [List.length_drop] at hl
  rw [List.take_of_length_le (by omega)]
  have : b.take (k - a.length) = [] := by
    rcases Nat.lt_or_ge k l.length with hk | hk
    · have : k - a.length = 0 := by omega
      rw [this, List.take_zero]
    · have : b = [] := List.eq_nil_of_length_eq_zero (by omega)
      rw [this, List.take_nil]
  rw [this, List.append_nil]
theorem denL_drop {l : List SV} {vs : List Value} (h : denL ρ l = some vs) (k : Nat) : denL ρ (l.drop k) = some (vs.drop k) := by
  have h' := h
  rw [← List.take_append_drop k l, denL_append] at h
  obtain ⟨a, b, h1, h2, rfl⟩ := h
  rw [h2]
  congr 1
  have h3 := denL_take h' k
  rw [h1] at h3
  injection h3 with h3
  have := List.take_append_drop k (a ++ b)
  rw [← h3] at this
  exact (List.append_cancel_left this).symm
theorem denL_get {l : List SV} {vs : List Value} (h : denL ρ l = some vs) {i : Nat} {s : SV} (hs : l[i]? = some s) : ∃ x, den ρ s = some x ∧ vs[i]? = some x := by
  induction l generalizing vs i with
  | nil => simp at hs
  | cons y l ih =>
    obtain ⟨a, b, h1, h2, rfl⟩ := denL_cons.1 h
    cases i with
    | zero =>
      simp only [List.getElem?_cons_zero, Option.some.injEq] at hs
      subst hs
      exact ⟨a, h1, rfl⟩
    | succ i => exact ih h2 (by simpa using hs)
theorem denL_vs (l : List Value) : denL ρ (l.map .v) = some l := by
  induction l with
  | nil => rfl
  | cons x l ih => simp only [List.map_cons]; exact denL_cons.2 ⟨x, l, rfl, ih, rfl⟩
theorem den_agg {l : List SV} {x : Value} : den ρ (.agg l) = some x ↔ ∃ vs, denL ρ l = some vs ∧ x = .agg vs.toArray := by
  simp only [den, Option.map_eq_some_iff]
  constructor
  · rintro ⟨a, h, rfl⟩; exact ⟨a, h, rfl⟩
  · rintro ⟨a, h, rfl⟩; exact ⟨a, h, rfl⟩
theorem den_cells {s : SV} {x : Value} (h : den ρ s = some x) : denL ρ s.cells = some x.cells.toList := by
  cases s with
  | agg l =>
    obtain ⟨vs, hv, rfl⟩ := den_agg.1 h
    simpa [SV.cells, Value.cells] using hv
  | v y =>
    simp only [den, Option.some.injEq] at h
    subst h
    cases y <;> simp only [SV.cells, Value.cells] <;> first | exact denL_vs _ | rfl
  | ptr n off =>
    have h' := h
    simp only [den, Option.map_eq_some_iff] at h'
    obtain ⟨e, _, rfl⟩ := h'
    simp [SV.cells, denL, h, Value.cells]
  | sl n off idx len =>
    have h' := h
    simp only [den, Option.map_eq_some_iff] at h'
    obtain ⟨e, _, rfl⟩ := h'
    simp [SV.cells, denL, h, Value.cells]
  | mp n =>
    have h' := h
    simp only [den, Option.map_eq_some_iff] at h'
    obtain ⟨e, _, rfl⟩ := h'
    simp [SV.cells, denL, h, Value.cells]
  | tptr n i j =>
    have h' := h
    simp only [den] at h'
    split at h' <;> try cases h'
    split at h' <;> cases h'
    simp [SV.cells, denL, h, Value.cells]
  | ifc t y =>
    have h' := h
    simp only [den, Option.map_eq_some_iff] at h'
    obtain ⟨e, _, rfl⟩ := h'
    simp [SV.cells, denL, h, Value.cells]
  | tup l =>
    have h' := h
    simp only [den, Option.map_eq_some_iff] at h'
    obtain ⟨e, _, rfl⟩ := h'
    simp [SV.cells, denL, h, Value.cells]
  | clo fn f c =>
    have h' := h
    simp only [den] at h'
    split at h' <;> try cases h'
    simp [SV.cells, denL, h, Value.cells]
  | slE n =>
    have h' := h
    simp only [den, Option.map_eq_some_iff] at h'
    obtain ⟨e, _, rfl⟩ := h'
    simp [SV.cells, denL, h, Value.cells]
  | tsl n len =>
    have h' := h
    simp only [den, Option.map_eq_some_iff] at h'
    obtain ⟨e, _, rfl⟩ := h'
    simp [SV.cells, denL, h, Value.cells]
end

/-- w' is w, but for the blocks of T and for new ones. -/
structure ModP (T : Nat → Prop) (w w' : World) : Prop where
  os : w'.os = w.os
  tape : w'.tape = w.tape
  output : w'.output = w.output
  size : w.heap.size ≤ w'.heap.size
  block : ∀ k, k < w.heap.size → ¬ T k → w'.heap[k]? = w.heap[k]?
section
variable {S T : Nat → Prop} {w w' w'' : World}
theorem ModP.refl (T : Nat → Prop) (w : World) : ModP T w w := ⟨rfl, rfl, rfl, Nat.le_refl _, fun _ _ _ => rfl⟩
theorem ModP.trans (h : ModP S w w') (k : ModP T w' w'') (hT : ∀ b, b < w.heap.size → T b → S b) : ModP S w w'' :=
  ⟨k.os.trans h.os, k.tape.trans h.tape, k.output.trans h.output, Nat.le_trans h.size k.size, fun x hx hn => (k.block x (Nat.lt_of_lt_of_le hx h.size) (fun ht => hn (hT x hx ht))).trans (h.block x hx hn)⟩
theorem ModP.mono (h : ModP S w w') (hT : ∀ b, b < w.heap.size → S b → T b) : ModP T w w' := ⟨h.os, h.tape, h.output, h.size, fun x hx hn => h.block x hx (fun hs => hn (hT x hx hs))⟩
theorem ModP.of_mod {L : List Nat} (h : Mod L w w') : ModP (fun b => b ∈ L) w w' := ⟨h.os, h.tape, h.output, h.size, h.block⟩
theorem ModP.mod {L : List Nat} (h : ModP T w w') (hT : ∀ b, b < w.heap.size → T b → b ∈ L) : Mod L w w' := ⟨h.os, h.tape, h.output, h.size, fun x hx hn => h.block x hx (fun hs => hn (hT x hx hs))⟩
theorem ModP.drew (w : World) : ModP T w { w with drawn := w.drawn + 1 } := ⟨rfl, rfl, rfl, Nat.le_refl _, fun _ _ _ => rfl⟩
end

/-- What a known structure is, in the machine's memory: where it lies and all its blocks. -/
structure RepAt (R : Type) where
  At : Nat → R → Spot → List Nat → World → Prop
  stable : ∀ {B r e own T w w'}, At B r e own w → ModP T w w' → (∀ x ∈ own, ¬ T x) → (∀ x, T x → B ≤ x) → At B r e own w'

section
variable {R : Type} (A : RepAt R) (P : Program)
def CAt (ρ : Names) (B : Nat) (e : Spot) (own : List Nat) : Chunk R → World → Prop
  | .row l t, w => own = [e.b] ∧ ∃ cs vs, w.heap[e.b]? = some (.cells cs t (0, 0)) ∧ denL ρ l = some vs ∧ (∀ i, i < vs.length → cs[e.off + i]? = vs[i]?) ∧ vs.length ≤ e.cap * P.cellsOf t ∧ e.off + e.cap * P.cellsOf t ≤ cs.size
  | .tab f len t, w => own = [] ∧ e.len = len ∧ e.sz = P.cellsOf t ∧ (0 < len → e.ad = some ⟨e.b, e.off, none⟩ ∧ e.b < B ∧ e.b < w.heap.size) ∧
      ∀ i, i < len → ∃ vs, denL ρ (f i) = some vs ∧ vs.length = e.sz ∧ ∀ j, j < e.sz → w.cell? ⟨e.b, e.off + i * e.sz + j, none⟩ = vs[j]?
  | .emp, _ => own = []
  | .rep r, w => A.At B r e own w

/-- The names F stand for what the memory holds. -/
structure LI (B : Nat) (ρ : Names) (own : Nat → List Nat) (hp : List (Nat × Chunk R)) (F : Nat → Prop) (w : World) : Prop where
  at_ : ∀ n c, F n → hget n hp = some c → ∃ e, ρ n = some e ∧ CAt A P ρ B e (own n) c w
  dis : ∀ n m c d, F n → F m → n ≠ m → hget n hp = some c → hget m hp = some d → ∀ b ∈ own n, b ∉ own m
  low : ∀ n c, F n → hget n hp = some c → ∀ b ∈ own n, B ≤ b ∧ b < w.heap.size

variable {A P}
theorem CAt.stable {ρ ρ' : Names} {B : Nat} {e : Spot} {own : List Nat} {c : Chunk R} {T : Nat → Prop} {w w' : World} (h : CAt A P ρ B e own c w) (hle : ρ.le ρ') (hm : ModP T w w') (hT : ∀ x ∈ own, ¬ T x) (hB : ∀ x, T x → B ≤ x)
    : CAt A P ρ' B e own c w' := by
  cases c with
  | row l t =>
    obtain ⟨h1, cs, vs, h2, h3, h4, h5⟩ := h
    refine ⟨h1, cs, vs, ?_, denL_mono hle _ _ h3, h4, h5⟩
    rw [hm.block e.b (heap_lt h2) (hT _ (by rw [h1]; simp))]
    exact h2
  | tab f len t =>
    obtain ⟨h1, h2, h3, h4, h5⟩ := h
    refine ⟨h1, h2, h3, fun hl => ?_, fun i hi => ?_⟩
    · obtain ⟨h6, h7, h8⟩ := h4 hl
      exact ⟨h6, h7, Nat.lt_of_lt_of_le h8 hm.size⟩
    · obtain ⟨h6, h7, h8⟩ := h4 (by omega)
      obtain ⟨vs, h9, h10, h11⟩ := h5 i hi
      refine ⟨vs, denL_mono hle _ _ h9, h10, fun j hj => ?_⟩
      rw [← h11 j hj]
      exact World.cell?_of_block (w := w) (hm.block e.b h8 (fun ht => by have := hB _ ht; omega))
  | emp => exact h
  | rep r => exact A.stable h hm hT hB

theorem LI.sub {B : Nat} {ρ : Names} {own : Nat → List Nat} {hp : List (Nat × Chunk R)} {F F' : Nat → Prop} {w : World} (h : LI A P B ρ own hp F w) (hF : ∀ n, F' n → F n) : LI A P B ρ own hp F' w :=
  ⟨fun n c hn hc => h.at_ n c (hF n hn) hc, fun n m c d hn hm => h.dis n m c d (hF n hn) (hF m hm), fun n c hn => h.low n c (hF n hn)⟩

/-- Names X may have changed. -/
theorem LI.step {B : Nat} {ρ ρ' : Names} {own own' : Nat → List Nat} {hp hp' : List (Nat × Chunk R)} {F F' X T : Nat → Prop} {w w' : World} (h : LI A P B ρ own hp F w) (hm : ModP T w w') (hle : ρ.le ρ')
    (hT : ∀ b, T b → ∃ n c, X n ∧ F n ∧ hget n hp = some c ∧ b ∈ own n)
    (same : ∀ n c, F' n → ¬ X n → hget n hp' = some c → F n ∧ hget n hp = some c ∧ own' n = own n)
    (new : ∀ n c, F' n → X n → hget n hp' = some c → ∃ e, ρ' n = some e ∧ CAt A P ρ' B e (own' n) c w')
    (pool : ∀ n c, F' n → X n → hget n hp' = some c → ∀ b ∈ own' n, b < w'.heap.size ∧ B ≤ b ∧ (w.heap.size ≤ b ∨ ∃ m c, X m ∧ F m ∧ hget m hp = some c ∧ b ∈ own m))
    (dis : ∀ n m c d, F' n → F' m → X n → X m → n ≠ m → hget n hp' = some c → hget m hp' = some d → ∀ b ∈ own' n, b ∉ own' m) : LI A P B ρ' own' hp' F' w' := by
  have hTB : ∀ x, T x → B ≤ x := fun x hx => by
    obtain ⟨n, c, _, h1, h2, h3⟩ := hT x hx
    exact (h.low n c h1 h2 x h3).1
  refine ⟨fun n c hn hc => ?_, fun n m c d hn hm' hne hc hd b hb hb' => ?_, fun n c hn hc b hb => ?_⟩
  · by_cases hX : X n
    · exact new n c hn hX hc
    · obtain ⟨h1, h2, h3⟩ := same n c hn hX hc
      obtain ⟨e, h4, h5⟩ := h.at_ n c h1 h2
      refine ⟨e, hle n e h4, ?_⟩
      rw [h3]
      refine h5.stable hle hm (fun x hx ht => ?_) hTB
      obtain ⟨m, d, g1, g2, g3, g4⟩ := hT x ht
      exact h.dis n m c d h1 g2 (fun e => hX (e ▸ g1)) h2 g3 x hx g4
  · by_cases hX : X n <;> by_cases hY : X m
    · exact dis n m c d hn hm' hX hY hne hc hd b hb hb'
    · obtain ⟨h1, h2, h3⟩ := same m d hm' hY hd
      rw [h3] at hb'
      rcases (pool n c hn hX hc b hb).2.2 with h4 | ⟨k, ck, g1, g2, g3, g4⟩
      · have := (h.low m d h1 h2 b hb').2
        omega
      · exact h.dis k m ck d g2 h1 (fun e => hY (e ▸ g1)) g3 h2 b g4 hb'
    · obtain ⟨h1, h2, h3⟩ := same n c hn hX hc
      rw [h3] at hb
      rcases (pool m d hm' hY hd b hb').2.2 with h4 | ⟨k, ck, g1, g2, g3, g4⟩
      · have := (h.low n c h1 h2 b hb).2
        omega
      · exact h.dis k n ck c g2 h1 (fun e => hX (e ▸ g1)) g3 h2 b g4 hb
    · obtain ⟨h1, h2, h3⟩ := same n c hn hX hc
      obtain ⟨h4, h5, h6⟩ := same m d hm' hY hd
      rw [h3] at hb
      rw [h6] at hb'
      exact h.dis n m c d h1 h4 hne h2 h5 b hb hb'
  · by_cases hX : X n
    · have := pool n c hn hX hc b hb
      exact ⟨this.2.1, this.1⟩
    · obtain ⟨h1, h2, h3⟩ := same n c hn hX hc
      rw [h3] at hb
      have := h.low n c h1 h2 b hb
      exact ⟨this.1, Nat.lt_of_lt_of_le this.2 hm.size⟩
end
end Go.Proofs.Ytdjogfofedbohaa
end
