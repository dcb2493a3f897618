/- Links of words: what the program's functions answer, in numbers. No condition. -/
import Derived.Test.YtpaiejeipghehaaGreatG1
import Derived.Laws.CopyOwn
import Derived.ArgAppend
import Derived.Tactics
import Derived.StillTail
import Derived.Deep.RegionHeld3
import Derived.Tactics2
import Derived.Sort.Grow
import Derived.Test.YtpaiejeipghehaaGreatG3
import Derived.Shelf.SlicesG.Cmp
import Derived.Test.YtpaiejeipghehaaGreatG2
import Derived.RangeFuncBound
import Derived.Shelf.AbstractIn
import Derived.Shelf.SlMaps.Clone
section
/- Laws on slices of structs that a call made itself: copy out of such a slice into a row. No condition. -/
namespace Go.Proofs.YtpaiejeipghehaaGreat
open Go.RowKit

section
variable {P : Program}
theorem run_copy_owned (w : World) (dT sT ty elem : TypeId) (g dLen dCap : Nat) (v : Value) (n sz base : Nat) (e : TypeId) (xs cur : List Value) (t : TypeId)
    (hown : w.ownsRow base e sz v n xs) (hu : P.underlying dT = some (.slice elem)) (hs : (P.info? elem).map (·.size) = some sz)
    (hg : Blk w g t cur) (hn : n ≤ dLen) (hfit : xs.length ≤ cur.length) (h1 : ∀ u ∈ xs, u.oneCell' = true) :
    ∃ w', (Builtin.copy_ #[dT, sT] ty #[.slice (some ⟨g, 0, none⟩) dLen dCap, v]).run P w = .ok (goInt n) w' ∧ Blk w' g t (xs ++ cur.drop xs.length) ∧ w.grownBy w' (some g) := by
  cases hq : P.info? elem with
  | none => simp [hq] at hs
  | some i =>
    have hi : i.size = sz := by simpa [hq] using hs
    rcases hown.2 with ⟨rfl, rfl⟩ | ⟨g', cap, cur', rfl, _, hg', hnc, _, hsz, htake⟩
    · have hx : xs = [] := List.eq_nil_of_length_eq_zero (by simpa using hown.1)
      subst hx
      refine ⟨w, ?_, by simpa using hg, World.grownBy.refl _ _⟩
      simp [Builtin.copy_, run_underlying hu, Builtin.lenOf, Builtin.firstCells, sizeOf, typeInfo, hq, storeCells]
    · have hl := run_loadCells_list (P := P) w ⟨g', 0, none⟩ xs (hown.cells (g := g') rfl)
      have hst := run_storeCells_at P g 0 t xs 0 cur.toArray w hg (by simpa using hfit) h1
      refine ⟨_, ?_, setRow_heap w g _ _ t _ hg, ?_⟩
      · have hmin : Nat.min n dLen = n := Nat.min_eq_left hn
        have hlen := hown.1
        simp [Builtin.copy_, run_underlying hu, Builtin.lenOf, Builtin.firstCells, sizeOf, typeInfo, hq, hi, hmin, ← hlen, hl, hst]
      · exact ⟨rfl, rfl, rfl, by simp, fun k _ hk => setRow_other w g k _ (fun e => hk (by rw [e]))⟩

theorem wpList_copy_owned {w : World} {ops : Array Oper} {rest : List Oper} {o : Oper} {a : Act} {Q : Exit → Act → World → Prop} (hgd : o.guard = none) (d s : Operand) (dT sT : TypeId)
    (ho : o.op = .call { callee := .builtin .copy, args := #[d, s], argTypes := #[dT, sT] }) (elem : TypeId) (hu : P.underlying dT = some (.slice elem)) (sz : Nat) (hs : (P.info? elem).map (·.size) = some sz)
    (g dLen dCap : Nat) (v : Value) (hd : a.eval d = .slice (some ⟨g, 0, none⟩) dLen dCap) (hv : a.eval s = v) (n base : Nat) (e : TypeId) (xs cur : List Value) (t : TypeId)
    (hown : w.ownsRow base e sz v n xs) (hg : Blk w g t cur) (hn : n ≤ dLen) (hfit : xs.length ≤ cur.length) (h1 : ∀ u ∈ xs, u.oneCell' = true)
    (h : ∀ w', Blk w' g t (xs ++ cur.drop xs.length) → w.grownBy w' (some g) → wpList P ops Q rest (a.put o.dst (goInt n)) w') : wpList P ops Q (o :: rest) a w := by
  refine wpList_plain hgd fun K hK => ?_
  obtain ⟨w', hrun, hb, hgr⟩ := run_copy_owned (P := P) w dT sT o.type elem g dLen dCap v n sz base e xs cur t hown hu hs hg hn hfit h1
  unfold Oper.wp
  simp [execOp, ho, resolve, invoke, builtin, hd, hv, hrun, Result.andThen]
  exact hK _ _ (h w' hb hgr)
end

theorem Blk.of_own {w : World} {base e sz g n : Nat} {xs : List Value} (h : w.ownsRow base e sz (.slice (some ⟨g, 0, none⟩) n n) n xs) : Blk w g e xs ∧ base ≤ g := by
  rcases h.2 with ⟨h0, _⟩ | ⟨g', cap, cur, hv, hb, hg, _, _, hs, ht⟩
  · cases h0
  · injection hv with h1 _ h3
    injection h1 with h1
    injection h1 with h1
    subst h1
    subst h3
    refine ⟨?_, hb⟩
    unfold Blk
    rw [hg, ← ht, ← hs, ← Array.length_toList, List.take_length]

theorem made_flat {α : Type} {enc : α → List Value} {sz : Nat} (h : ∀ a, (enc a).length = sz) (hp : 0 < sz) (z : Array Value) (x : α) (hz : z.toList = enc x) (n : Nat) :
    (madeCells z (n * sz)).toList = flat enc (List.replicate n x) := by
  have hzs : z.size = sz := by rw [← Array.length_toList, hz, h]
  have hl := flat_length h (List.replicate n x)
  rw [List.length_replicate] at hl
  apply List.ext_getElem?
  intro k
  rcases Nat.lt_or_ge k (n * sz) with hk | hk
  · have hj := Nat.mod_lt k hp
    have hi : k / sz < n := Nat.div_lt_of_lt_mul (by rw [Nat.mul_comm]; exact hk)
    have hf := flat_get h (List.replicate n x) (k / sz) (k % sz) hj
    rw [Nat.div_add_mod' k sz] at hf
    rw [hf]
    have hjz : k % sz < z.size := by omega
    simp only [madeCells, hzs, Array.toList_map, Array.toList_range, List.getElem?_map, List.getElem?_range hk, Option.map_some, List.getElem?_replicate, if_pos hi, Option.bind_some, ← hz, Array.getElem?_toList]
    rw [Array.getElem?_eq_getElem hjz, getElem!_pos z (k % sz) hjz]
  · rw [List.getElem?_eq_none (by simpa [madeCells] using hk), List.getElem?_eq_none (by omega)]

theorem Blk.new' {g : Nat} (w : World) (t : TypeId) (cs : List Value) (h : g = w.heap.size) : Blk (w.alloc (.cells cs.toArray t)) g t cs := by
  subst h
  exact Blk.new w t cs

theorem own_form {w : World} {base e sz n : Nat} {v : Value} {xs : List Value} (h : w.ownsRow base e sz v n xs) : ∃ A c, v = .slice A n c := by
  rcases h.2 with ⟨rfl, rfl⟩ | ⟨g, cap, cur, rfl, _⟩
  · exact ⟨none, 0, rfl⟩
  · exact ⟨_, _, rfl⟩

/-- A slice value of address A reads as these cells, from place o of block b on. -/
def Rd (w : World) (b o : Nat) (A : Option Addr) (cells : List Value) : Prop := ∀ j u, cells[j]? = some u → A = some ⟨b, o, none⟩ ∧ w.cell? ⟨b, o + j, none⟩ = some u
theorem Rd.mod {S : List Nat} {w w' : World} {b o : Nat} {A : Option Addr} {cs : List Value} (h : Rd w b o A cs) (hm : Mod S w w') (hb : cs ≠ [] → b ∉ S) : Rd w' b o A cs := fun j u hj =>
  ⟨(h j u hj).1, (hm.cell (p := ⟨b, o + j, none⟩) (World.block_lt_of_cell? w _ (h j u hj).2) (hb (fun e => by subst e; cases hj))).trans (h j u hj).2⟩
theorem Rd.lt {w : World} {b o : Nat} {A : Option Addr} {cs : List Value} (h : Rd w b o A cs) (hn : cs ≠ []) : b < w.heap.size := by
  obtain ⟨x, l, rfl⟩ := List.exists_cons_of_ne_nil hn
  exact World.block_lt_of_cell? w _ (h 0 x rfl).2

theorem Rd.of_own {w : World} {base e sz n c : Nat} {A : Option Addr} {cs : List Value} (h : w.ownsRow base e sz (.slice A n c) n cs) : ∃ b, Rd w b 0 A cs ∧ (cs ≠ [] → base ≤ b) := by
  rcases h.2 with ⟨h0, hn⟩ | ⟨g, cap, cur, hv, hb, hg, r⟩
  · refine ⟨0, fun j u hj => ?_, fun hne => ?_⟩
    · have hx : cs = [] := List.eq_nil_of_length_eq_zero (by rw [h.1, hn]; simp)
      subst hx
      cases hj
    · exact absurd (List.eq_nil_of_length_eq_zero (by rw [h.1, hn]; simp)) hne
  · injection hv with hA
    subst hA
    refine ⟨g, fun j u hj => ⟨rfl, ?_⟩, fun _ => hb⟩
    have := h.cells (g := g) rfl j u hj
    rw [← this]
    unfold Addr.add
    split <;> simp_all

section
variable {P : Program}
/-- append onto a row of the call's own, from a row that is known whole (nil let in). -/
theorem run_append_owned (w : World) (t ty base e : TypeId) (i : TypeInfo) (z : Value) (size bytes : Nat) (ht : P.underlying t = some (.slice e)) (hi : P.info? e = some i) (hz : i.zero = some z)
    (hsize : i.size = size) (hby : i.bytes = bytes) (hzs : z.cells.size = size) (hsz : 0 < size)
    (v : Value) (n : Nat) (xs : List Value) (hown : w.ownsRow base e size v n xs)
    (s : Value) (m base' e' : Nat) (ys : List Value) (hs : w.ownsRow base' e' size s m ys) (h1 : ∀ u ∈ ys, u.oneCell' = true)
    (h63 : n + m ≤ maxLen) (hbytes : (n + m) * bytes ≤ 140737488355328) (hbase : base ≤ w.heap.size) :
    ∃ A c w', (Builtin.append_ #[t, t] ty #[v, s]).run P w = .ok (.slice A (n + m) c) w' ∧ w'.ownsRow base e size (.slice A (n + m) c) (n + m) (xs ++ ys) ∧ w.grownBy w' v.ownBlock ∧
      ((Value.slice A (n + m) c).ownBlock = v.ownBlock ∨ (Value.slice A (n + m) c).ownBlock = some w.heap.size) := by
  rcases hs.2 with ⟨rfl, rfl⟩ | ⟨g, cap, cur, rfl, _, _, _⟩
  · have hx : ys = [] := List.eq_nil_of_length_eq_zero (by simpa using hs.1)
    subst hx
    obtain ⟨A, c, rfl⟩ := own_form hown
    exact ⟨A, c, w, run_append_owned_none (P := P) w base t ty e i size ht hi _ n xs hown, by simpa using hown, World.grownBy.refl _ _, .inl rfl⟩
  · obtain ⟨v', w', hrun, h2, h3, _, h5⟩ := run_append_own_at (P := P) w base t ty e i z size bytes ht hi hz hsize hby hzs hsz v n xs hown ⟨g, 0, none⟩ m cap ys hs.1 (hs.cells rfl) h1 h63 hbytes hbase
    obtain ⟨A, c, rfl⟩ := own_form h2
    exact ⟨A, c, w', hrun, h2, h3, h5⟩

theorem wp_append_owned {w : World} {o : Oper} {a : Act} {K : Act → World → Prop} {Q : Exit → Act → World → Prop} (s x : Operand) (t : TypeId)
    (ho : o.op = .call { callee := .builtin .append, args := #[s, x], argTypes := #[t, t] })
    (base e : TypeId) (i : TypeInfo) (z : Value) (size bytes : Nat) (ht : P.underlying t = some (.slice e)) (hi : P.info? e = some i) (hz : i.zero = some z)
    (hsize : i.size = size) (hby : i.bytes = bytes) (hzs : z.cells.size = size) (hsz : 0 < size)
    (v : Value) (n : Nat) (xs : List Value) (hv : a.eval s = v) (hown : w.ownsRow base e size v n xs)
    (y : Value) (m base' e' : Nat) (ys : List Value) (hy : a.eval x = y) (hs : w.ownsRow base' e' size y m ys) (h1 : ∀ u ∈ ys, u.oneCell' = true)
    (h63 : n + m ≤ maxLen) (hbytes : (n + m) * bytes ≤ 140737488355328) (hbase : base ≤ w.heap.size)
    (h : ∀ A c w', w'.ownsRow base e size (.slice A (n + m) c) (n + m) (xs ++ ys) → w.grownBy w' v.ownBlock → ((Value.slice A (n + m) c).ownBlock = v.ownBlock ∨ (Value.slice A (n + m) c).ownBlock = some w.heap.size) → K (a.put o.dst (.slice A (n + m) c)) w') : o.wp P a w K Q := by
  obtain ⟨A, c, w', hr, h2, h3, h4⟩ := run_append_owned (P := P) w t o.type base e i z size bytes ht hi hz hsize hby hzs hsz v n xs hown y m base' e' ys hs h1 h63 hbytes hbase
  unfold Oper.wp execOp
  simp only [ho, resolve, invoke, builtin, Sem.run_bind, Sem.run_pure, Result.andThen_ok, List.map_toArray, List.map_cons, List.map_nil, hv, hy, hr]
  exact h A c w' h2 h3 h4

theorem wpList_append_owned {w : World} {ops : Array Oper} {rest : List Oper} {o : Oper} {a : Act} {Q : Exit → Act → World → Prop} (hgd : o.guard = none) (s x : Operand) (t : TypeId)
    (ho : o.op = .call { callee := .builtin .append, args := #[s, x], argTypes := #[t, t] })
    (base e : TypeId) (i : TypeInfo) (z : Value) (size bytes : Nat) (ht : P.underlying t = some (.slice e)) (hi : P.info? e = some i) (hz : i.zero = some z)
    (hsize : i.size = size) (hby : i.bytes = bytes) (hzs : z.cells.size = size) (hsz : 0 < size)
    (v : Value) (n : Nat) (xs : List Value) (hv : a.eval s = v) (hown : w.ownsRow base e size v n xs)
    (y : Value) (m base' e' : Nat) (ys : List Value) (hy : a.eval x = y) (hs : w.ownsRow base' e' size y m ys) (h1 : ∀ u ∈ ys, u.oneCell' = true)
    (h63 : n + m ≤ maxLen) (hbytes : (n + m) * bytes ≤ 140737488355328) (hbase : base ≤ w.heap.size)
    (h : ∀ A c w', w'.ownsRow base e size (.slice A (n + m) c) (n + m) (xs ++ ys) → w.grownBy w' v.ownBlock → ((Value.slice A (n + m) c).ownBlock = v.ownBlock ∨ (Value.slice A (n + m) c).ownBlock = some w.heap.size) → wpList P ops Q rest (a.put o.dst (.slice A (n + m) c)) w') : wpList P ops Q (o :: rest) a w :=
  wpList_plain hgd fun _ hK => wp_append_owned s x t ho base e i z size bytes ht hi hz hsize hby hzs hsz v n xs hv hown y m base' e' ys hy hs h1 h63 hbytes hbase fun A c w' h2 h3 h4 => hK _ _ (h A c w' h2 h3 h4)

theorem step_append_owned {w : World} {ops : Array Oper} {o : Oper} {a : Act} {K : Act → World → Prop} {Q : Exit → Act → World → Prop} {E : Prop} (hgd : o.guard = none) (s x : Operand) (t : TypeId)
    (ho : o.op = .call { callee := .builtin .append, args := #[s, x], argTypes := #[t, t] })
    (base e : TypeId) (i : TypeInfo) (z : Value) (size bytes : Nat) (ht : P.underlying t = some (.slice e)) (hi : P.info? e = some i) (hz : i.zero = some z)
    (hsize : i.size = size) (hby : i.bytes = bytes) (hzs : z.cells.size = size) (hsz : 0 < size)
    (v : Value) (n : Nat) (xs : List Value) (hv : a.eval s = v) (hown : w.ownsRow base e size v n xs)
    (y : Value) (m base' e' : Nat) (ys : List Value) (hy : a.eval x = y) (hs : w.ownsRow base' e' size y m ys) (h1 : ∀ u ∈ ys, u.oneCell' = true)
    (h63 : n + m ≤ maxLen) (hbytes : (n + m) * bytes ≤ 140737488355328) (hbase : base ≤ w.heap.size)
    (h : ∀ A c w', w'.ownsRow base e size (.slice A (n + m) c) (n + m) (xs ++ ys) → w.grownBy w' v.ownBlock → ((Value.slice A (n + m) c).ownBlock = v.ownBlock ∨ (Value.slice A (n + m) c).ownBlock = some w.heap.size) → K (a.put o.dst (.slice A (n + m) c)) w') :
    if Region.wanted o (yielded ops a.tmps) = true then Oper.wp P o a w K Q else E := by
  have hw : Region.wanted o (yielded ops a.tmps) = true := by simp [Region.wanted, hgd]
  rw [if_pos hw]
  exact wp_append_owned s x t ho base e i z size bytes ht hi hz hsize hby hzs hsz v n xs hv hown y m base' e' ys hy hs h1 h63 hbytes hbase h

theorem ownsRow_base {w : World} {base base' e sz n : Nat} {v : Value} {xs : List Value} (h : w.ownsRow base e sz v n xs) (hb : base' ≤ base) : w.ownsRow base' e sz v n xs := by
  refine ⟨h.1, ?_⟩
  rcases h.2 with h0 | ⟨g, cap, cur, hv, hg, r⟩
  · exact .inl h0
  · exact .inr ⟨g, cap, cur, hv, Nat.le_trans hb hg, r⟩

/-- append([]T{}, s...): a copy. -/
theorem run_append_clone (w : World) (t ty base e : TypeId) (i : TypeInfo) (z : Value) (size bytes : Nat) (ht : P.underlying t = some (.slice e)) (hi : P.info? e = some i) (hz : i.zero = some z)
    (hsize : i.size = size) (hby : i.bytes = bytes) (hzs : z.cells.size = size) (hsz : 0 < size)
    (g : Nat) (hown : w.ownsRow base e size (.slice (some ⟨g, 0, none⟩) 0 0) 0 [])
    (s : Value) (m base' e' : Nat) (ys : List Value) (hs : w.ownsRow base' e' size s m ys) (h1 : ∀ u ∈ ys, u.oneCell' = true)
    (h63 : m ≤ maxLen) (hbytes : m * bytes ≤ 140737488355328) (hbase : base ≤ w.heap.size) :
    ∃ A c w', (Builtin.append_ #[t, t] ty #[.slice (some ⟨g, 0, none⟩) 0 0, s]).run P w = .ok (.slice A m c) w' ∧ w'.ownsRow base e size (.slice A m c) m ys ∧ w.grownBy w' none := by
  rcases hs.2 with ⟨rfl, rfl⟩ | ⟨g', cap, cur, rfl, _, _, _⟩
  · have hx : ys = [] := List.eq_nil_of_length_eq_zero (by simpa using hs.1)
    subst hx
    exact ⟨_, _, w, run_append_owned_none (P := P) w base t ty e i size ht hi _ 0 [] hown, hown, World.grownBy.refl _ _⟩
  · rcases Nat.eq_zero_or_pos m with hm | hm
    · subst hm
      have hx : ys = [] := List.eq_nil_of_length_eq_zero (by simpa using hs.1)
      subst hx
      obtain ⟨hb, _⟩ := Blk.of_own hown
      have hr := run_append_room (P := P) w t ty e i ht hi g 0 0 #[] hb ⟨g', 0, none⟩ 0 cap [] (by simp) (by simp) (by simp) (by omega) (by simp)
      refine ⟨_, _, w, ?_, hown, World.grownBy.refl _ _⟩
      rw [hr]
      simp [setRow_self w g #[] e (0, 0) hb]
    · obtain ⟨v', w', hrun, h2, h3⟩ := run_append_arg_grows (P := P) w t ty e i z size bytes ht hi hz hsize hby hzs hsz ⟨g, 0, none⟩ 0 0 [] (by simp) (by simp) ⟨g', 0, none⟩ m cap ys hs.1 (hs.cells rfl) (by omega) (by omega) (by rw [Nat.zero_add]; exact hbytes)
      rw [Nat.zero_add] at h2
      obtain ⟨A, c, rfl⟩ := own_form h2
      exact ⟨A, c, w', hrun, ownsRow_base (by simpa using h2) hbase, h3⟩

theorem wpList_append_clone {w : World} {ops : Array Oper} {rest : List Oper} {o : Oper} {a : Act} {Q : Exit → Act → World → Prop} (hgd : o.guard = none) (s x : Operand) (t : TypeId)
    (ho : o.op = .call { callee := .builtin .append, args := #[s, x], argTypes := #[t, t] })
    (base e : TypeId) (i : TypeInfo) (z : Value) (size bytes : Nat) (ht : P.underlying t = some (.slice e)) (hi : P.info? e = some i) (hz : i.zero = some z)
    (hsize : i.size = size) (hby : i.bytes = bytes) (hzs : z.cells.size = size) (hsz : 0 < size)
    (g : Nat) (hv : a.eval s = .slice (some ⟨g, 0, none⟩) 0 0) (hown : w.ownsRow base e size (.slice (some ⟨g, 0, none⟩) 0 0) 0 [])
    (y : Value) (m base' e' : Nat) (ys : List Value) (hy : a.eval x = y) (hs : w.ownsRow base' e' size y m ys) (h1 : ∀ u ∈ ys, u.oneCell' = true)
    (h63 : m ≤ maxLen) (hbytes : m * bytes ≤ 140737488355328) (hbase : base ≤ w.heap.size)
    (h : ∀ A c w', w'.ownsRow base e size (.slice A m c) m ys → w.grownBy w' none → wpList P ops Q rest (a.put o.dst (.slice A m c)) w') : wpList P ops Q (o :: rest) a w := by
  refine wpList_plain hgd fun K hK => ?_
  obtain ⟨A, c, w', hr, h2, h3⟩ := run_append_clone (P := P) w t o.type base e i z size bytes ht hi hz hsize hby hzs hsz g hown y m base' e' ys hs h1 h63 hbytes hbase
  unfold Oper.wp execOp
  simp only [ho, resolve, invoke, builtin, Sem.run_bind, Sem.run_pure, Result.andThen_ok, List.map_toArray, List.map_cons, List.map_nil, hv, hy, hr]
  exact hK _ _ (h A c w' h2 h3)

/-- The same from a slice of which it is known how it reads. -/
theorem run_append_clone_rd (w : World) (t ty base e : TypeId) (i : TypeInfo) (z : Value) (size bytes : Nat) (ht : P.underlying t = some (.slice e)) (hi : P.info? e = some i) (hz : i.zero = some z)
    (hsize : i.size = size) (hby : i.bytes = bytes) (hzs : z.cells.size = size) (hsz : 0 < size)
    (g : Nat) (hown : w.ownsRow base e size (.slice (some ⟨g, 0, none⟩) 0 0) 0 [])
    (A : Option Addr) (m c b o : Nat) (ys : List Value) (hA : A = none → c = 0) (hr : Rd w b o A ys) (hl : ys.length = m * size) (h1 : ∀ u ∈ ys, u.oneCell' = true)
    (h63 : m ≤ maxLen) (hbytes : m * bytes ≤ 140737488355328) (hbase : base ≤ w.heap.size) :
    ∃ A' c' w', (Builtin.append_ #[t, t] ty #[.slice (some ⟨g, 0, none⟩) 0 0, .slice A m c]).run P w = .ok (.slice A' m c') w' ∧ w'.ownsRow base e size (.slice A' m c') m ys ∧ w.grownBy w' none := by
  rcases Nat.eq_zero_or_pos m with hm | hm
  · subst hm
    have hx : ys = [] := List.eq_nil_of_length_eq_zero (by simpa using hl)
    subst hx
    rcases A with _ | ad
    · obtain rfl := hA rfl
      exact ⟨_, _, w, run_append_owned_none (P := P) w base t ty e i size ht hi _ 0 [] hown, hown, World.grownBy.refl _ _⟩
    · obtain ⟨hb, _⟩ := Blk.of_own hown
      have hr := run_append_room (P := P) w t ty e i ht hi g 0 0 #[] hb ad 0 c [] (by simp) (by simp) (by simp) (by omega) (by simp)
      refine ⟨_, _, w, ?_, hown, World.grownBy.refl _ _⟩
      rw [hr]
      simp [setRow_self w g #[] e (0, 0) hb]
  · have hne : ys ≠ [] := by
      intro e0
      subst e0
      have := Nat.mul_pos hm hsz
      simp at hl
      omega
    obtain ⟨x, l, hx⟩ := List.exists_cons_of_ne_nil hne
    obtain ⟨rfl, _⟩ := hr 0 x (by rw [hx]; rfl)
    obtain ⟨v', w', hrun, h2, h3⟩ := run_append_arg_grows (P := P) w t ty e i z size bytes ht hi hz hsize hby hzs hsz ⟨g, 0, none⟩ 0 0 [] (by simp) (by simp) ⟨b, o, none⟩ m c ys hl
      (fun j u hj => by have := (hr j u hj).2; rw [← this]; unfold Addr.add; split <;> simp_all) (by omega) (by omega) (by rw [Nat.zero_add]; exact hbytes)
    rw [Nat.zero_add] at h2
    obtain ⟨A', c', rfl⟩ := own_form h2
    exact ⟨A', c', w', hrun, ownsRow_base (by simpa using h2) hbase, h3⟩

theorem wpList_append_clone_rd {w : World} {ops : Array Oper} {rest : List Oper} {o : Oper} {a : Act} {Q : Exit → Act → World → Prop} (hgd : o.guard = none) (s x : Operand) (t : TypeId)
    (ho : o.op = .call { callee := .builtin .append, args := #[s, x], argTypes := #[t, t] })
    (base e : TypeId) (i : TypeInfo) (z : Value) (size bytes : Nat) (ht : P.underlying t = some (.slice e)) (hi : P.info? e = some i) (hz : i.zero = some z)
    (hsize : i.size = size) (hby : i.bytes = bytes) (hzs : z.cells.size = size) (hsz : 0 < size)
    (g : Nat) (hv : a.eval s = .slice (some ⟨g, 0, none⟩) 0 0) (hown : w.ownsRow base e size (.slice (some ⟨g, 0, none⟩) 0 0) 0 [])
    (A : Option Addr) (m c b off : Nat) (ys : List Value) (hy : a.eval x = .slice A m c) (hA : A = none → c = 0) (hr : Rd w b off A ys) (hl : ys.length = m * size) (h1 : ∀ u ∈ ys, u.oneCell' = true)
    (h63 : m ≤ maxLen) (hbytes : m * bytes ≤ 140737488355328) (hbase : base ≤ w.heap.size)
    (h : ∀ A c w', w'.ownsRow base e size (.slice A m c) m ys → w.grownBy w' none → wpList P ops Q rest (a.put o.dst (.slice A m c)) w') : wpList P ops Q (o :: rest) a w := by
  refine wpList_plain hgd fun K hK => ?_
  obtain ⟨A', c', w', hrun, h2, h3⟩ := run_append_clone_rd (P := P) w t o.type base e i z size bytes ht hi hz hsize hby hzs hsz g hown A m c b off ys hA hr hl h1 h63 hbytes hbase
  unfold Oper.wp execOp
  simp only [ho, resolve, invoke, builtin, Sem.run_bind, Sem.run_pure, Result.andThen_ok, List.map_toArray, List.map_cons, List.map_nil, hv, hy, hrun]
  exact hK _ _ (h A' c' w' h2 h3)
end
end Go.Proofs.YtpaiejeipghehaaGreat
end
section
/- The rule of XRel once more, where how much was drawn is told too: each operation but the last ones makes new memory at most, and its value is known up to a relation that new memory leaves alone: then one walk in the order of the text serves every order. No condition. -/
namespace Go.Proofs.YtpaiejeipghehaaGreat.Gw
open Go.RowKit Go.Sort

/-- w' is w after some draws, with some blocks laid behind it. -/
def Gr (w w' : World) : Prop := ∃ (q : Nat) (os : Array Obj), w' = grow (w.drewN q) os
theorem Gr.refl (w : World) : Gr w w := ⟨0, #[], by simp [grow, World.drewN]⟩
theorem Gr.trans {a b c : World} (h : Gr a b) (k : Gr b c) : Gr a c := by
  obtain ⟨q, os, rfl⟩ := h
  obtain ⟨r, os', rfl⟩ := k
  exact ⟨q + r, os ++ os', by simp [grow, World.drewN, Array.append_assoc, Nat.add_assoc]⟩
theorem Gr.drewN {a w : World} (h : Gr a w) (n : Nat) : Gr a (w.drewN n) := h.trans ⟨n, #[], by simp [grow, World.drewN]⟩
theorem Gr.drew {a w : World} (h : Gr a w) : Gr a w.drew := h.drewN 1
theorem Gr.alloc {a w : World} (h : Gr a w) (o : Obj) : Gr a (w.alloc o) := h.trans ⟨0, #[o], by simp only [grow, World.drewN, World.alloc, Nat.add_zero]; congr 1⟩
theorem Gr.mod {a w : World} (h : Gr a w) : Mod [] a w := by
  obtain ⟨q, os, rfl⟩ := h
  exact ⟨rfl, rfl, rfl, by simp [grow, World.drewN], fun k hk _ => by simp [grow, World.drewN, Array.getElem?_append_left hk]⟩

/-- What is known of a value, and stays known when new memory is made. -/
structure Stab where
  R : Value → World → Prop
  st : ∀ v w1 w2, R v w1 → Gr w1 w2 → R v w2
def Stab.top : Stab := ⟨fun _ _ => True, fun _ _ _ _ _ => trivial⟩
def Stab.det (e : Value) : Stab := ⟨fun v _ => v = e, fun _ _ _ h _ => h⟩

section
variable {P : Program} {ops : Array Oper} {Q : Exit → Act → World → Prop}

/-- What is asked of a call. -/
def relPost (w : World) (r : Stab) (e : Ending) (w3 : World) : Prop := ∃ v, e = .returned v ∧ Gr w w3 ∧ r.R v w3
theorem relPost_det {w w3 : World} {v : Value} (h : Gr w w3) : relPost w (Stab.det v) (.returned v) w3 := ⟨v, rfl, h, rfl⟩
theorem relPost_by {w w3 : World} {r : Stab} {v : Value} (h : Gr w w3) (hr : r.R v w3) : relPost w r (.returned v) w3 := ⟨v, rfl, h, hr⟩

def relUpon (P : Program) (w : World) (r : Stab) : Result Next → Prop
  | .ok (.value v) w2 => Gr w w2 ∧ r.R v w2
  | .ok .skip w2 => Gr w w2 ∧ r.R undef w2
  | .ok (.enter f args) w2 => Calls P f args w2 (relPost w r)
  | _ => False

def relAt (P : Program) (ops : Array Oper) (o : Oper) (a : Act) (w : World) (r : Stab) : Prop :=
  if Region.wanted o (yielded ops a.tmps) = true then relUpon P w r ((execOp a.eval o).run P w) else r.R undef w

def dstOf (ops : Array Oper) (j : Nat) : Option Tmp := (ops[j]?).bind (·.dst)

/-- The values of earlier operations laid into the frame. -/
def withDeps (Rs : List Stab) (w : World) : List (Nat × Tmp) → Act → (Act → Prop) → Prop
  | [], a, F => F a
  | p :: ds, a, F => ∀ v, (Rs.getD p.1 Stab.top).R v w → withDeps Rs w ds (a.put (some p.2) v) F

/-- One operation after the other, in the order of the text ('none': a bare copy of a variable, taken ahead of all). -/
def relWalk (P : Program) (ops : Array Oper) (w : World) (a : Act) : List Oper → List (Option (List (Nat × Tmp))) → List Stab → (List Stab → Prop) → Prop
  | o :: l, some d :: ds, Rs, F => ∃ r : Stab, (∀ w', Gr w w' → withDeps Rs w' d a fun a' => relAt P ops o a' w' r) ∧ relWalk P ops w a l ds (Rs ++ [r]) F
  | _ :: l, none :: ds, Rs, F => relWalk P ops w a l ds (Rs ++ [Stab.top]) F
  | _, [], Rs, F => F Rs
  | [], _ :: _, _, _ => False

def isPre (ds : List (Option (List (Nat × Tmp)))) (i : Nat) : Bool := match ds[i]? with | some none => true | _ => false

def sinkP (ops : Array Oper) (n : Nat) (ds : List (Option (List (Nat × Tmp)))) : Bool :=
  (List.range n).all fun i => isPre ds i || (List.range (n + 1)).any fun j => decide (i < j) && Region.waitsFor .any ops j i

/-- The bare copies, one behind the other. -/
def preB (ops : Array Oper) : List Nat → Array Bool → Bool
  | [], _ => true
  | i :: is, listed => (match ops[i]? with
    | some o => (match o.op with | .move _ => true | _ => false) && decide (o.guard = none)
    | none => false) && (Region.ready .any ops listed).contains i && Region.free .any ops listed i && preB ops is (listed.setIfInBounds i true)

def preAct (ops : Array Oper) : List Nat → Act → Act
  | [], a => a
  | i :: is, a => preAct ops is (match ops[i]? with
    | some o => (match o.op with | .move x => a.put o.dst (a.eval x) | _ => a)
    | none => a)

def pres (ds : List (Option (List (Nat × Tmp)))) : List Nat := (List.range ds.length).filter (isPre ds)

def relB (ops : Array Oper) (ds : List (Option (List (Nat × Tmp)))) (hs : List (Nat × Tmp)) (size : Nat) : Bool :=
  let n := ds.length
  Region.noSelect ops && decide (n ≤ ops.size) && (decide (n = ops.size) || (sinkP ops n ds && Region.chainB .any ops n)) &&
  preB ops (pres ds) (Array.replicate ops.size false) &&
  decide (hs = (List.range n).filterMap fun j => if isPre ds j then none else (dstOf ops j).map fun d => (j, d)) &&
  hs.all (fun p => decide (p.2 < size)) &&
  ((List.range n).all fun i => match ops[i]?, ds[i]? with
    | some o, some d =>
      (o.after.all fun e => !Region.binds .any e || decide (e.on < i)) &&
      ((d.getD []).all fun p => decide (p.1 < i) && decide (dstOf ops p.1 = some p.2) && Region.waitsFor .any ops i p.1 && !isPre ds p.1) &&
      ((o.looksAt ops).all fun t => (d.getD []).any (fun p => p.2 == t) || (List.range n).all fun j => isPre ds j || decide (dstOf ops j ≠ some t)) &&
      ((List.range n).all fun j => decide (j = i) || decide (dstOf ops i = none) || decide (dstOf ops j ≠ dstOf ops i))
    | _, _ => false) &&
  Region.seqB .any ops (ops.size - n) n ((Array.range ops.size).map fun i => decide (i < n))

theorem withDeps_elim {Rs : List Stab} {w : World} {a : Act} {F : Act → Prop} : ∀ (ds : List (Nat × Tmp)) (b : Act), withDeps Rs w ds b F →
    (∀ p ∈ ds, ∃ v, a.tmps[p.2]? = some v ∧ (Rs.getD p.1 Stab.top).R v w) → a.tmps.size = b.tmps.size →
    ∃ b', F b' ∧ b'.defers = b.defers ∧ b'.tmps.size = b.tmps.size ∧ (∀ p ∈ ds, b'.tmps[p.2]? = a.tmps[p.2]?) ∧ (∀ t, (∀ p ∈ ds, p.2 ≠ t) → b'.tmps[t]? = b.tmps[t]?)
  | [], b, h, _, _ => ⟨b, h, rfl, rfl, (fun p hp => by cases hp), fun _ _ => rfl⟩
  | p :: ds, b, h, hv, hs => by
    obtain ⟨v, hv1, hv2⟩ := hv p (List.mem_cons_self ..)
    have hlt : p.2 < b.tmps.size := by
      rw [← hs]
      exact (Array.getElem?_eq_some_iff.1 hv1).1
    obtain ⟨b', hF, h1, h2, h3, h4⟩ := withDeps_elim ds (b.put (some p.2) v) (h v hv2) (fun q hq => hv q (List.mem_cons_of_mem _ hq)) (by simpa [Act.put] using hs)
    refine ⟨b', hF, by simpa [Act.put] using h1, by simpa [Act.put] using h2, fun q hq => ?_, fun t ht => ?_⟩
    · by_cases hin : q ∈ ds
      · exact h3 q hin
      · obtain rfl : q = p := (List.mem_cons.1 hq).resolve_right hin
        by_cases hx : ∃ r ∈ ds, r.2 = q.2
        · obtain ⟨r, hr, he⟩ := hx
          rw [← he]
          exact h3 r hr
        · rw [h4 q.2 (fun r hr he => hx ⟨r, hr, he⟩), hv1]
          simp [Act.put, hlt]
    · rw [h4 t (fun r hr => ht r (List.mem_cons_of_mem _ hr))]
      simp [Act.put, Array.getElem?_setIfInBounds_ne (ht p (List.mem_cons_self ..))]

/-- What the walk has laid down. -/
theorem relWalk_elim {w : World} {a : Act} {F : List Stab → Prop} : ∀ (l : List Oper) (ds : List (Option (List (Nat × Tmp)))) (Rs : List Stab), relWalk P ops w a l ds Rs F →
    ∃ Rs', F Rs' ∧ (∀ j, j < Rs.length → Rs'[j]? = Rs[j]?) ∧ ∀ i o d, l[i]? = some o → ds[i]? = some (some d) → (∀ q ∈ d, q.1 < Rs.length + i) → ∃ r, Rs'[Rs.length + i]? = some r ∧ ∀ w', Gr w w' → withDeps Rs' w' d a fun a' => relAt P ops o a' w' r
  | l, [], Rs, h => ⟨Rs, by cases l <;> exact h, fun _ _ => rfl, (fun i o d _ hd => by simp at hd)⟩
  | [], _ :: _, Rs, h => h.elim
  | o :: rest, none :: ds, Rs, h => by
    obtain ⟨Rs', hF, ha, hb⟩ := relWalk_elim rest ds (Rs ++ [Stab.top]) h
    have hpre : ∀ j, j < Rs.length → Rs'[j]? = Rs[j]? := fun j hj => by
      rw [ha j (by simp; omega), List.getElem?_append_left hj]
    refine ⟨Rs', hF, hpre, fun i q d hq hd hlt => ?_⟩
    cases i with
    | zero => simp at hd
    | succ i =>
      obtain ⟨r', h3, h4⟩ := hb i q d (by simpa using hq) (by simpa using hd) (fun x hx => by have := hlt x hx; simp; omega)
      refine ⟨r', ?_, h4⟩
      rw [← h3]
      congr 1
      simp
      omega
  | o :: rest, some d0 :: ds, Rs, h => by
    obtain ⟨r, h1, h2⟩ := h
    obtain ⟨Rs', hF, ha, hb⟩ := relWalk_elim rest ds (Rs ++ [r]) h2
    have hpre : ∀ j, j < Rs.length → Rs'[j]? = Rs[j]? := fun j hj => by
      rw [ha j (by simp; omega), List.getElem?_append_left hj]
    refine ⟨Rs', hF, hpre, fun i q d hq hd hlt => ?_⟩
    cases i with
    | zero =>
      simp only [List.getElem?_cons_zero, Option.some.injEq] at hq hd
      subst hq
      subst hd
      refine ⟨r, by rw [Nat.add_zero, ha _ (by simp)]; simp, fun w' hw' => ?_⟩
      have h3 := h1 w' hw'
      have hcong : ∀ (ds : List (Nat × Tmp)) (b : Act) (G : Act → Prop), (∀ q ∈ ds, q.1 < Rs.length) → withDeps Rs w' ds b G → withDeps Rs' w' ds b G := by
        intro ds
        induction ds with
        | nil => exact fun _ _ _ h => h
        | cons d ds ih =>
          intro b G hd hh v hv
          refine ih _ _ (fun q hq => hd q (List.mem_cons_of_mem _ hq)) (hh v ?_)
          have he := hpre d.1 (hd d (List.mem_cons_self ..))
          simp only [List.getD_eq_getElem?_getD, he] at hv ⊢
          exact hv
      exact hcong _ _ _ (fun q hq => by have := hlt q hq; omega) h3
    | succ i =>
      obtain ⟨r', h3, h4⟩ := hb i q d (by simpa using hq) (by simpa using hd) (fun x hx => by have := hlt x hx; simp; omega)
      refine ⟨r', ?_, h4⟩
      rw [← h3]
      congr 1
      simp
      omega

structure RInv (ops : Array Oper) (ds : List (Option (List (Nat × Tmp)))) (n : Nat) (Rs : List Stab) (w0 : World) (a0 : Act) (listed : Array Bool) (a : Act) (w : World) : Prop where
  head : HeadInv .any ops n listed
  pre : ∀ i, isPre ds i = true → i < n → listed.getD i false = true
  mod : Gr w0 w
  defers : a.defers = a0.defers
  size : a.tmps.size = a0.tmps.size
  done : ∀ j d, j < n → isPre ds j = false → listed.getD j false = true → dstOf ops j = some d → ∃ v, a.tmps[d]? = some v ∧ (Rs.getD j Stab.top).R v w
  rest : ∀ t, (∀ j, j < n → isPre ds j = false → listed.getD j false = true → dstOf ops j ≠ some t) → a.tmps[t]? = a0.tmps[t]?

theorem filter_less {l : List Nat} {p q : Nat → Bool} {i : Nat} (hn : l.Nodup) (hi : i ∈ l) (hp : p i = true) (hq : q i = false) (h : ∀ j, j ≠ i → q j = p j) : (l.filter p).length = (l.filter q).length + 1 := by
  induction l with
  | nil => cases hi
  | cons x l ih =>
    rw [List.nodup_cons] at hn
    by_cases hx : x = i
    · subst hx
      have : l.filter q = l.filter p := List.filter_congr fun j hj => h j (fun e => hn.1 (e ▸ hj))
      rw [List.filter_cons_of_pos hp, List.filter_cons_of_neg (by simp [hq]), this]
      simp
    · have hi' : i ∈ l := (List.mem_cons.1 hi).resolve_left (fun e => hx e.symm)
      have := ih hn.2 hi'
      cases hpx : p x with
      | true => rw [List.filter_cons_of_pos hpx, List.filter_cons_of_pos (by rw [h x hx]; exact hpx)]; simp [this]
      | false => rw [List.filter_cons_of_neg (by simp [hpx]), List.filter_cons_of_neg (by rw [h x hx]; simp [hpx])]; exact this

theorem wanted_same {o : Oper} {a b : Act} (h : ∀ t ∈ o.looksAt ops, a.tmps[t]? = b.tmps[t]?) : Region.wanted o (yielded ops a.tmps) = Region.wanted o (yielded ops b.tmps) := by
  unfold Region.wanted
  cases hg : o.guard with
  | none => rfl
  | some gw =>
    obtain ⟨g, want⟩ := gw
    have hy : yielded ops a.tmps g = yielded ops b.tmps g := by
      unfold yielded
      cases ht : (ops[g]?).bind (·.dst) with
      | none => rfl
      | some t => simp [h t (by simp [Oper.looksAt, hg, ht])]
    simp only [hy]

theorem exec_same {o : Oper} {a b : Act} (hs : ∀ cs b, o.op ≠ .select cs b) (h : ∀ t ∈ o.looksAt ops, a.tmps[t]? = b.tmps[t]?) : execOp a.eval o = execOp b.eval o :=
  execOp_congr o hs fun x hx => by
    cases x with
    | tmp t =>
      have := h t (List.mem_append_left _ (List.mem_filterMap.2 ⟨.tmp t, by simpa using hx, rfl⟩))
      simp only [Act.eval, Array.getD_eq_getD_getElem?, this]
    | _ => rfl

theorem wp_of_relUpon {o : Oper} {a : Act} {w : World} {r : Stab} {K : Act → World → Prop} (h : relUpon P w r ((execOp a.eval o).run P w)) (hK : ∀ v w2, Gr w w2 → r.R v w2 → K (a.put o.dst v) w2) : o.wp P a w K Q := by
  unfold Oper.wp
  generalize (execOp a.eval o).run P w = res at *
  cases res with
  | ok x w2 =>
    cases x <;> simp only [relUpon] at h <;> simp only [Oper.upon]
    case value v => exact hK _ _ h.1 h.2
    case skip => exact hK _ _ h.1 h.2
    case enter f args => exact h.mono fun e w3 ⟨v, he, hm, hr⟩ => by subst he; exact hK _ _ hm hr
  | halt x w2 => simp only [relUpon] at h

theorem sinkP_waits {n : Nat} {ds : List (Option (List (Nat × Tmp)))} {listed : Array Bool} (hs : sinkP ops n ds = true) (hc : Region.chainB .any ops n = true) (hn : n < ops.size) (inv : HeadInv .any ops n listed) (hp : ∀ i, isPre ds i = true → i < n → listed.getD i false = true) :
    ∀ (d i : Nat), n - i = d → i < n → listed.getD i true = false → ∀ t, n ≤ t → t ∉ Region.ready .any ops listed := by
  intro d
  induction d using Nat.strongRecOn with
  | _ d ih =>
    intro i hd hi hun t ht hr
    obtain ⟨_, ot, hot, hall⟩ := mem_ready.1 hr
    have htlt : t < ops.size := (Array.getElem?_eq_some_iff.1 hot).1
    by_cases htn : t = n
    · subst htn
      have h1 := List.all_eq_true.1 hs i (List.mem_range.2 hi)
      rw [Bool.or_eq_true] at h1
      rcases h1 with h1 | h1
      · have := hp i h1 hi
        rw [getD_both hun] at this
        cases this
      obtain ⟨j, hj, hj2⟩ := List.any_eq_true.1 h1
      simp only [Bool.and_eq_true, decide_eq_true_eq] at hj2
      obtain ⟨oj, hoj, e, he, hb, hon⟩ := Region.waitsFor_spec hj2.2
      have hjle : j ≤ t := by have := List.mem_range.1 hj; omega
      by_cases hjt : j = t
      · subst hjt
        have : oj = ot := Option.some.inj (hoj.symm.trans hot)
        subst this
        have h2 := hall e he hb
        rw [hon, getD_both hun] at h2
        cases h2
      · cases hl : listed.getD j false with
        | true =>
          have h2 := inv.closed j oj hoj hl e he hb
          rw [hon, getD_both hun] at h2
          cases h2
        | false =>
          have hjs : j < listed.size := by rw [inv.size]; omega
          exact ih (t - j) (by omega) j rfl (by omega) (getD_in hjs hl) t (Nat.le_refl _) hr
    · have h1 := List.all_eq_true.1 hc t (List.mem_range.2 htlt)
      simp only [Bool.or_eq_true, decide_eq_true_eq] at h1
      rcases h1 with h1 | h1
      · omega
      · obtain ⟨o', ho', e, he, hb, hon⟩ := Region.waitsFor_spec h1
        have : o' = ot := Option.some.inj (ho'.symm.trans hot)
        subst this
        have h2 := hall e he hb
        rw [hon, getD_both (inv.tail (t - 1) (by omega) (by omega))] at h2
        cases h2

theorem pre_first {Q : Exit → Act → World → Prop} (hQ : ∀ c a w, ¬ Q (.panic c) a w) (hsel : Region.noSelect ops = true) : ∀ (is : List Nat) (listed : Array Bool) (a : Act) (w : World) (fuel : Nat), preB ops is listed = true →
    wpAny P .any ops Q fuel (is.foldl (fun l i => l.setIfInBounds i true) listed) (preAct ops is a) w → wpAny P .any ops Q (fuel + is.length) listed a w
  | [], _, _, _, _, _, h => h
  | i :: is, listed, a, w, fuel, hB, h => by
    simp only [preB, Bool.and_eq_true] at hB
    obtain ⟨⟨⟨hmv, hr⟩, hf⟩, hB'⟩ := hB
    cases ho : ops[i]? with
    | none => rw [ho] at hmv; cases hmv
    | some o =>
      rw [ho] at hmv
      simp only [Bool.and_eq_true, decide_eq_true_eq] at hmv
      obtain ⟨hmv, hg⟩ := hmv
      cases hop : o.op with
      | move x =>
        simp only [preAct, ho, hop] at h
        have h1 := pre_first hQ hsel is _ _ w fuel hB' h
        have := wpAny_first (v := a.eval x) ho (Region.noSelect_spec hsel) (fun c a w hq => absurd hq (hQ c _ w)) (fuel + is.length) listed a w (Region.free_spec ho hf) (by simpa using hr)
          (.inl ⟨by simp [Region.wanted, hg], fun w => by simp [execOp, hop]⟩) h1
        exact this
      | _ => rw [hop] at hmv; cases hmv

theorem foldl_set {is : List Nat} {listed : Array Bool} : (is.foldl (fun l i => l.setIfInBounds i true) listed).size = listed.size ∧
    ∀ j d, (is.foldl (fun l i => l.setIfInBounds i true) listed).getD j d = if j ∈ is ∧ j < listed.size then true else listed.getD j d := by
  induction is generalizing listed with
  | nil => exact ⟨rfl, fun j d => by simp⟩
  | cons i is ih =>
    obtain ⟨h1, h2⟩ := ih (listed := listed.setIfInBounds i true)
    refine ⟨by simpa using h1, fun j d => ?_⟩
    rw [List.foldl_cons, h2]
    simp only [Array.size_setIfInBounds, List.mem_cons]
    by_cases hj : j = i
    · subst hj
      by_cases hlt : j < listed.size
      · simp [hlt]
      · simp [hlt]
    · rw [getD_set_ne d (Ne.symm hj)]
      simp [hj]

theorem put_same (a : Act) (d : Option Tmp) (v : Value) : (a.put d v).defers = a.defers ∧ (a.put d v).tmps.size = a.tmps.size := by cases d <;> simp [Act.put]
theorem preAct_same : ∀ (is : List Nat) (a : Act), (preAct ops is a).defers = a.defers ∧ (preAct ops is a).tmps.size = a.tmps.size
  | [], _ => ⟨rfl, rfl⟩
  | i :: is, a => by
    cases ho : ops[i]? with
    | none => simp only [preAct, ho]; exact preAct_same is a
    | some o =>
      cases hop : o.op with
      | move x =>
        simp only [preAct, ho, hop]
        obtain ⟨h1, h2⟩ := preAct_same is (a.put o.dst (a.eval x))
        exact ⟨h1.trans (put_same _ _ _).1, h2.trans (put_same _ _ _).2⟩
      | _ => simp only [preAct, ho, hop]; exact preAct_same is a

theorem wp_region_rel_of {id : Nat} {l : List Oper} {ds : List (Option (List (Nat × Tmp)))} {hs : List (Nat × Tmp)} {Rs : List Stab} (hm : P.follows .mixedOrders = true) (hQ : ∀ c a w, ¬ Q (.panic c) a w) {a0 : Act} {w : World}
    (hB : relB l.toArray ds hs a0.tmps.size = true)
    (hobs : ∀ i o d, l[i]? = some o → ds[i]? = some (some d) → ∀ w', Gr w w' → withDeps Rs w' d (preAct l.toArray (pres ds) a0) fun a' => relAt P l.toArray o a' w' (Rs.getD i Stab.top))
    (htail : ∀ w', Gr w w' → withDeps Rs w' hs (preAct l.toArray (pres ds) a0) fun a' => wpList P l.toArray Q (l.drop ds.length) a' w') : (Code.region id l.toArray true).wp P Q a0 w := by
  obtain ⟨n, hnd⟩ : ∃ n, n = ds.length := ⟨_, rfl⟩
  simp only [relB, ← hnd, Bool.and_eq_true, Bool.or_eq_true, decide_eq_true_eq] at hB
  obtain ⟨⟨⟨⟨⟨⟨⟨hsel, hn⟩, htl⟩, hpreB⟩, hhs⟩, hsz⟩, hops⟩, hseq⟩ := hB
  rw [← hnd] at htail
  have hsel' := Region.noSelect_spec hsel
  refine wp_region_any hm ?_
  obtain ⟨a, ha⟩ : ∃ a, a = preAct l.toArray (pres ds) a0 := ⟨_, rfl⟩
  have has := preAct_same (ops := l.toArray) (pres ds) a0
  rw [← ha] at hobs htail has
  -- a tail operation waits for all of the head
  have hwait : ∀ {listed : Array Bool}, HeadInv .any l.toArray n listed → (∀ i, isPre ds i = true → i < n → listed.getD i false = true) → ∀ i, i < n → listed.getD i true = false → ∀ t, n ≤ t → t ∉ Region.ready .any l.toArray listed := by
    intro listed inv hp i hi hun t ht hr
    have htlt : t < l.toArray.size := by obtain ⟨_, o, ho, _⟩ := mem_ready.1 hr; exact (Array.getElem?_eq_some_iff.1 ho).1
    rcases htl with htl | ⟨hs1, hc1⟩
    · omega
    · rcases Nat.lt_or_ge n l.toArray.size with hlt | hge
      · exact sinkP_waits hs1 hc1 hlt inv hp _ i rfl hi hun t ht hr
      · omega
  have main : ∀ (m : Nat) (listed : Array Bool) (b : Act) (w' : World), RInv l.toArray ds n Rs w a listed b w' →
      ((List.range n).filter fun i => !listed.getD i false).length = m → wpAny P .any l.toArray Q (m + (l.toArray.size - n)) listed b w' := by
    intro m
    induction m with
    | zero =>
      intro listed b w' inv hc
      have hall : ∀ i, i < n → listed.getD i false = true := by
        intro i hi
        have h0 := List.eq_nil_of_length_eq_zero hc
        rw [List.filter_eq_nil_iff] at h0
        simpa using h0 i (List.mem_range.2 hi)
      have hl : listed = (Array.range l.toArray.size).map fun i => decide (i < n) := by
        apply Array.ext_getElem?
        intro i
        rcases Nat.lt_or_ge i l.toArray.size with hi | hi
        · have hil : i < listed.size := by rw [inv.head.size]; exact hi
          rw [Array.getElem?_eq_getElem hil]
          simp only [Array.getElem?_map, Array.getElem?_range, hi, if_true, Option.map_some]
          congr 1
          rcases Nat.lt_or_ge i n with h1 | h1
          · have := hall i h1
            simpa [h1, hil] using this
          · have := inv.head.tail i h1 hi
            have h2 : ¬ i < n := by omega
            simpa [h2, hil] using this
        · rw [Array.getElem?_eq_none (by rw [inv.head.size]; exact hi), Array.getElem?_eq_none (by simpa using hi)]
      rw [← hl] at hseq
      have ht := htail w' inv.mod
      obtain ⟨b', hF, h1, h2, h3, h4⟩ := withDeps_elim (a := b) hs a ht (fun p hp => by
        rw [hhs, List.mem_filterMap] at hp
        obtain ⟨j, hj, he⟩ := hp
        cases hpr : isPre ds j with
        | true => simp [hpr] at he
        | false =>
          cases hd : dstOf l.toArray j with
          | none => simp [hpr, hd] at he
          | some d =>
            simp only [hpr, hd, Bool.false_eq_true, if_false, Option.map_some, Option.some.injEq] at he
            subst he
            exact inv.done j d (List.mem_range.1 hj) hpr (hall j (List.mem_range.1 hj)) hd) inv.size
      have hbb : b' = b := by
        obtain ⟨bt, bd⟩ := b
        obtain ⟨bt', bd'⟩ := b'
        have e1 : bd' = bd := h1.trans inv.defers.symm
        have e2 : bt' = bt := by
          apply Array.ext_getElem?
          intro t
          by_cases hx : ∃ p ∈ hs, p.2 = t
          · obtain ⟨p, hp, he⟩ := hx
            rw [← he]
            exact h3 p hp
          · refine (h4 t (fun p hp he => hx ⟨p, hp, he⟩)).trans (inv.rest t (fun j hj hpr _ hd => hx ⟨(j, t), ?_, rfl⟩)).symm
            rw [hhs, List.mem_filterMap]
            exact ⟨j, List.mem_range.2 hj, by rw [hd, hpr]; rfl⟩
        rw [e1, e2]
      subst hbb
      have := wpAny_of_seq (Q' := Q) (l.drop n) n listed b' w' (fun j => by simp) (by simpa using hseq) hF
      simpa using this
    | succ m ih =>
      intro listed b w' inv hc
      have hsome : ∃ i, i < n ∧ listed.getD i false = false ∧ ∀ j, j < i → listed.getD j false = true := by
        have hex : ∃ i, i < n ∧ listed.getD i false = false := by
          have hne : (List.range n).filter (fun i => !listed.getD i false) ≠ [] := by
            intro e
            rw [e] at hc
            cases hc
          obtain ⟨i, hi⟩ := List.exists_mem_of_ne_nil _ hne
          rw [List.mem_filter] at hi
          exact ⟨i, List.mem_range.1 hi.1, by simpa using hi.2⟩
        obtain ⟨i, hi, hl⟩ := hex
        induction i using Nat.strongRecOn with
        | _ i ihi =>
          by_cases hx : ∃ j, j < i ∧ listed.getD j false = false
          · obtain ⟨j, hj, hjl⟩ := hx
            exact ihi j hj (by omega) hjl
          · refine ⟨i, hi, hl, fun j hj => ?_⟩
            cases h : listed.getD j false with
            | true => rfl
            | false => exact absurd ⟨j, hj, h⟩ hx
      obtain ⟨k, hk, hkl, hkm⟩ := hsome
      have getT : ∀ i, i < n → listed.getD i false = false → listed.getD i true = false := fun i hi h => getD_in (by rw [inv.head.size]; omega) h
      have hkr : k ∈ Region.ready .any l.toArray listed := by
        have h1 := List.all_eq_true.1 hops k (List.mem_range.2 hk)
        cases hok : l.toArray[k]? with
        | none => rw [hok] at h1; cases h1
        | some o =>
          cases hdk : ds[k]? with
          | none => rw [hok, hdk] at h1; cases h1
          | some dk =>
            rw [hok, hdk] at h1
            simp only [Bool.and_eq_true] at h1
            refine mem_ready.2 ⟨getT k hk hkl, o, hok, fun e he hb => ?_⟩
            have h2 := Array.all_eq_true'.1 h1.1.1.1 e he
            simp only [Bool.or_eq_true, Bool.not_eq_true', decide_eq_true_eq] at h2
            rcases h2 with h2 | h2
            · rw [h2] at hb; cases hb
            · exact hkm _ h2
      rw [show m + 1 + (l.toArray.size - n) = (m + (l.toArray.size - n)) + 1 from by omega]
      refine ⟨fun h0 => (by rw [h0] at hkr; cases hkr), fun i hi => ?_⟩
      have hin : i < n := by
        rcases Nat.lt_or_ge i n with h | h
        · exact h
        · exact absurd hi (hwait inv.head inv.pre k hk (getT k hk hkl) i h)
      obtain ⟨hun, o, ho, haft⟩ := mem_ready.1 hi
      have hunf := getD_both hun
      have hnp : isPre ds i = false := by
        cases h : isPre ds i with
        | false => rfl
        | true => have := inv.pre i h hin; rw [hunf] at this; cases this
      obtain ⟨d, hd⟩ : ∃ d, ds[i]? = some (some d) := by
        have : ds[i]? = some (ds[i]'(by omega)) := List.getElem?_eq_getElem (by omega)
        cases hx : ds[i]'(by omega) with
        | none => rw [hx] at this; simp [isPre, this] at hnp
        | some d => exact ⟨d, by rw [this, hx]⟩
      have h1 := List.all_eq_true.1 hops i (List.mem_range.2 hin)
      rw [ho, hd] at h1
      simp only [Bool.and_eq_true, Option.getD_some] at h1
      obtain ⟨⟨⟨_, hdeps⟩, hlook⟩, huniq⟩ := h1
      have hol : l[i]? = some o := by simpa using ho
      have hob := hobs i o d hol hd w' inv.mod
      have hdep : ∀ p ∈ d, p.1 < n ∧ listed.getD p.1 false = true ∧ dstOf l.toArray p.1 = some p.2 ∧ isPre ds p.1 = false := fun p hp => by
        have h2 := List.all_eq_true.1 hdeps p hp
        simp only [Bool.and_eq_true, decide_eq_true_eq, Bool.not_eq_true'] at h2
        obtain ⟨⟨⟨h3, h4⟩, h5⟩, h6⟩ := h2
        obtain ⟨o', ho', e, he, hb, hon⟩ := Region.waitsFor_spec h5
        have : o' = o := Option.some.inj (ho'.symm.trans ho)
        subst this
        exact ⟨by omega, by rw [← hon]; exact haft e he hb, h4, h6⟩
      obtain ⟨b', hF, hb1, hb2, hb3, hb4⟩ := withDeps_elim (a := b) d a hob (fun p hp => inv.done p.1 p.2 (hdep p hp).1 (hdep p hp).2.2.2 (hdep p hp).2.1 (hdep p hp).2.2.1) inv.size
      have hsame : ∀ t ∈ o.looksAt l.toArray, b'.tmps[t]? = b.tmps[t]? := fun t ht => by
        by_cases hx : ∃ p ∈ d, p.2 = t
        · obtain ⟨p, hp, he⟩ := hx
          rw [← he]
          exact hb3 p hp
        · have h2 := List.all_eq_true.1 hlook t ht
          simp only [Bool.or_eq_true] at h2
          rcases h2 with h2 | h2
          · obtain ⟨p, hp, he⟩ := List.any_eq_true.1 h2
            exact absurd ⟨p, hp, by simpa using he⟩ hx
          · rw [hb4 t (fun p hp he => hx ⟨p, hp, he⟩)]
            refine (inv.rest t (fun j hj hpr _ => ?_)).symm
            have := List.all_eq_true.1 h2 j (List.mem_range.2 hj)
            simpa [hpr] using this
      have hFb : relAt P l.toArray o b w' (Rs.getD i Stab.top) := by
        unfold relAt at hF ⊢
        rw [wanted_same hsame, exec_same (hsel' i o · · ho) hsame] at hF
        exact hF
      have step : ∀ v w2, Gr w' w2 → (Rs.getD i Stab.top).R v w2 → wpAny P .any l.toArray Q (m + (l.toArray.size - n)) (listed.setIfInBounds i true) (b.put o.dst v) w2 := by
        intro v w2 hmod hr
        have hdst : dstOf l.toArray i = o.dst := by simp [dstOf, hol]
        have hil : i < listed.size := by rw [inv.head.size]; omega
        refine ih _ _ _ ⟨inv.head.set hi hin, fun j hj hjn => getD_set_true (inv.pre j hj hjn), inv.mod.trans hmod, ?_, ?_, fun j dd hj hjp hjl hjd => ?_, fun t ht => ?_⟩ ?_
        · exact (put_same _ _ _).1.trans inv.defers
        · exact (put_same _ _ _).2.trans inv.size
        · by_cases hji : j = i
          · subst hji
            rw [hdst] at hjd
            rw [hjd]
            have hlt : dd < b.tmps.size := by
              rw [inv.size, has.2]
              have h2 := List.all_eq_true.1 hsz (j, dd) (by rw [hhs, List.mem_filterMap]; exact ⟨j, List.mem_range.2 hj, by rw [hdst, hjd, hjp]; rfl⟩)
              simpa using h2
            exact ⟨v, by simp [Act.put, hlt], hr⟩
          · rw [getD_set_ne false (Ne.symm hji)] at hjl
            obtain ⟨u, hu1, hu2⟩ := inv.done j dd hj hjp hjl hjd
            refine ⟨u, ?_, (Rs.getD j Stab.top).st _ _ _ hu2 hmod⟩
            rw [← hu1]
            cases hod : o.dst with
            | none => rfl
            | some od =>
              have h2 := List.all_eq_true.1 huniq j (List.mem_range.2 hj)
              simp only [Bool.or_eq_true, decide_eq_true_eq] at h2
              have hne : od ≠ dd := by
                intro e
                rcases h2 with (h2 | h2) | h2
                · exact hji h2
                · rw [hdst, hod] at h2; cases h2
                · exact h2 (by rw [hjd, hdst, hod, e])
              simp [Act.put, Array.getElem?_setIfInBounds_ne hne]
        · have hne : ∀ od, o.dst = some od → od ≠ t := fun od hod e => ht i hin hnp (by simp [hil]) (by rw [hdst, hod, e])
          rw [← inv.rest t (fun j hj hjp hjl => ht j hj hjp (getD_set_true hjl))]
          cases hod : o.dst with
          | none => rfl
          | some od => simp [Act.put, Array.getElem?_setIfInBounds_ne (hne od hod)]
        · have := filter_less (p := fun j => !listed.getD j false) (q := fun j => !(listed.setIfInBounds i true).getD j false) List.nodup_range (List.mem_range.2 hin) (by simp [hunf]) (by simp [hil]) (fun j hj => by rw [getD_set_ne false (Ne.symm hj)])
          omega
      unfold wpOp
      rw [ho]
      show if Region.wanted o (yielded l.toArray b.tmps) = true then _ else _
      unfold relAt at hFb
      split
      · rename_i hw
        rw [if_pos hw] at hFb
        exact .inl (wp_of_relUpon hFb step)
      · rename_i hw
        rw [if_neg hw] at hFb
        exact step undef w' (Gr.refl _) hFb
  -- the bare copies first
  have hpm : ∀ j, j ∈ pres ds ↔ j < n ∧ isPre ds j = true := fun j => by simp [pres, hnd]
  obtain ⟨L, hL⟩ : ∃ L, L = (pres ds).foldl (fun l i => l.setIfInBounds i true) (Array.replicate l.toArray.size false) := ⟨_, rfl⟩
  obtain ⟨hL1, hL2⟩ := foldl_set (is := pres ds) (listed := Array.replicate l.toArray.size false)
  rw [← hL] at hL1 hL2
  have hLf : ∀ j, L.getD j false = true ↔ j ∈ pres ds := fun j => by
    rw [hL2, getD_replicate_false]
    constructor
    · intro h
      split at h
      · rename_i h'; exact h'.1
      · cases h
    · intro h
      have := (hpm j).1 h
      rw [if_pos ⟨h, by simp; simp at hn; omega⟩]
  have inv0 : RInv l.toArray ds n Rs w a L a { w with drawn := w.drawn + 1 } := by
    refine ⟨⟨by rw [hL1]; simp, ?_, fun t ht htl => ?_⟩, fun i hi hin => (hLf i).2 ((hpm i).2 ⟨hin, hi⟩), (Gr.refl w).drew, rfl, rfl, fun j d _ hjp hl => ?_, fun _ _ => rfl⟩
    · -- what is listed has waited for nothing that is not: by the check
      have closed : ∀ (is : List Nat) (L0 : Array Bool), L0.size = l.toArray.size → preB l.toArray is L0 = true → (∀ j oj, l.toArray[j]? = some oj → L0.getD j false = true → ∀ e ∈ oj.after, Region.binds .any e = true → L0.getD e.on false = true) →
          ∀ j oj, l.toArray[j]? = some oj → (is.foldl (fun l i => l.setIfInBounds i true) L0).getD j false = true → ∀ e ∈ oj.after, Region.binds .any e = true → (is.foldl (fun l i => l.setIfInBounds i true) L0).getD e.on false = true := by
        intro is
        induction is with
        | nil => exact fun _ _ _ h => h
        | cons i is ih =>
          intro L0 hs0 hb hcl
          simp only [preB, Bool.and_eq_true] at hb
          obtain ⟨⟨⟨_, hr⟩, _⟩, hb'⟩ := hb
          obtain ⟨_, oi, hoi, hall⟩ := mem_ready.1 (by simpa using hr : i ∈ Region.ready .any l.toArray L0)
          refine ih (L0.setIfInBounds i true) (by simpa using hs0) hb' (fun j oj hj hl e he hbn => ?_)
          by_cases hij : i = j
          · subst hij
            have : oj = oi := Option.some.inj (hj.symm.trans hoi)
            subst this
            exact getD_set_true (hall e he hbn)
          · rw [getD_set_ne false hij] at hl
            exact getD_set_true (hcl j oj hj hl e he hbn)
      rw [hL]
      exact closed _ _ (by simp) hpreB (fun j oj _ hl => (by rw [getD_replicate_false] at hl; cases hl))
    · rw [hL2, if_neg (fun h => by have := (hpm t).1 h.1; omega)]
      exact getD_in (by simpa using htl) (getD_replicate_false _ _)
    · have := (hpm j).1 ((hLf j).1 hl)
      rw [hjp] at this
      exact absurd this.2 (by simp)
  have hcount : ((List.range n).filter fun i => !L.getD i false).length + (pres ds).length = n := by
    have e1 : (List.range n).filter (fun i => !L.getD i false) = (List.range n).filter (fun i => !isPre ds i) := List.filter_congr fun j hj => by
      have hjn := List.mem_range.1 hj
      congr 1
      rw [Bool.eq_iff_iff, hLf, hpm]
      simp [hjn]
    have e2 : pres ds = (List.range n).filter (isPre ds) := by rw [pres, hnd]
    rw [e1, e2]
    have : ∀ (k : List Nat), (k.filter fun i => !isPre ds i).length + (k.filter (isPre ds)).length = k.length := by
      intro k
      induction k with
      | nil => rfl
      | cons x k ih => cases h : isPre ds x <;> simp [h] <;> omega
    rw [this, List.length_range]
  have hmain := main _ _ _ _ inv0 rfl
  rw [ha, hL] at hmain
  have := pre_first hQ hsel (pres ds) _ a0 { w with drawn := w.drawn + 1 } _ hpreB hmain
  rw [← hL] at this
  have hfu : ((List.range n).filter fun i => !L.getD i false).length + (l.toArray.size - n) + (pres ds).length = l.toArray.size := by omega
  rw [hfu] at this
  exact this

theorem wp_region_rel {id : Nat} {l : List Oper} (ds : List (Option (List (Nat × Tmp)))) (hs : List (Nat × Tmp)) (hm : P.follows .mixedOrders = true) {a : Act} {w : World}
    (hB : relB l.toArray ds hs a.tmps.size = true)
    (h : relWalk P l.toArray w (preAct l.toArray (pres ds) a) l ds [] fun Rs => ∀ w', Gr w w' → withDeps Rs w' hs (preAct l.toArray (pres ds) a) fun a' => wpList P l.toArray (NoPanic Q) (l.drop ds.length) a' w') : (Code.region id l.toArray true).wp P Q a w := by
  obtain ⟨Rs, hF, _, hobs⟩ := relWalk_elim _ _ _ h
  have hB' := hB
  simp only [relB, Bool.and_eq_true, Bool.or_eq_true, decide_eq_true_eq] at hB'
  obtain ⟨⟨⟨⟨⟨⟨⟨_, hn⟩, _⟩, _⟩, _⟩, _⟩, hops⟩, _⟩ := hB'
  refine wp_region_noPanic (wp_region_rel_of hm (fun _ _ _ h => h) hB (fun i o d ho hd w' hw' => ?_) hF)
  have hi : i < ds.length := by
    rcases Nat.lt_or_ge i ds.length with h1 | h1
    · exact h1
    · rw [List.getElem?_eq_none h1] at hd; cases hd
  obtain ⟨r, hr, hall⟩ := hobs i o d ho hd (fun q hq => by
    have h1 := List.all_eq_true.1 hops i (List.mem_range.2 hi)
    have ho' : l.toArray[i]? = some o := by simpa using ho
    rw [ho', hd] at h1
    simp only [Bool.and_eq_true] at h1
    have h2 := List.all_eq_true.1 h1.1.1.2 q (by simpa using hq)
    simp only [Bool.and_eq_true, decide_eq_true_eq] at h2
    simpa using h2.1.1.1)
  have he : Rs.getD i Stab.top = r := by
    rw [List.getD_eq_getElem?_getD]
    simp only [List.length_nil, Nat.zero_add] at hr
    rw [hr]
    rfl
  rw [he]
  exact hall w' hw'

/-- An operation whose value is one and the same. -/
theorem relWalk_det {w : World} {a : Act} {o : Oper} {l : List Oper} {d : List (Nat × Tmp)} {ds : List (Option (List (Nat × Tmp)))} {Rs : List Stab} {F : List Stab → Prop} {e : Value}
    (h1 : ∀ w', Gr w w' → withDeps Rs w' d a fun a' => relAt P ops o a' w' (Stab.det e)) (h2 : relWalk P ops w a l ds (Rs ++ [Stab.det e]) F) : relWalk P ops w a (o :: l) (some d :: ds) Rs F := ⟨_, h1, h2⟩
/-- An operation whose value is known up to a relation. -/
theorem relWalk_by {w : World} {a : Act} {o : Oper} {l : List Oper} {d : List (Nat × Tmp)} {ds : List (Option (List (Nat × Tmp)))} {Rs : List Stab} {F : List Stab → Prop} (r : Stab)
    (h1 : ∀ w', Gr w w' → withDeps Rs w' d a fun a' => relAt P ops o a' w' r) (h2 : relWalk P ops w a l ds (Rs ++ [r]) F) : relWalk P ops w a (o :: l) (some d :: ds) Rs F := ⟨r, h1, h2⟩
theorem relWalk_pre {w : World} {a : Act} {o : Oper} {l : List Oper} {ds : List (Option (List (Nat × Tmp)))} {Rs : List Stab} {F : List Stab → Prop} (h2 : relWalk P ops w a l ds (Rs ++ [Stab.top]) F) : relWalk P ops w a (o :: l) (none :: ds) Rs F := h2
theorem relWalk_end {w : World} {a : Act} {l : List Oper} {Rs : List Stab} {F : List Stab → Prop} (h : F Rs) : relWalk P ops w a l [] Rs F := by cases l <;> exact h

end
end Go.Proofs.YtpaiejeipghehaaGreat.Gw
end
section
/- cell.compare: places by their numbers, one behind the other. No condition. -/
namespace Go.Proofs.YtpaiejeipghehaaGreat
open Go.Shelf Go.RowKit Go.Lib Go.Sort

def cmpP_ren : Go.Shelf.Ren := ⟨fun | 5 => 121 | 7 => 129 | n => n, fun | 22 => 3 | 3 => 3 | 4 => 4 | n => n, fun n => n⟩
set_option maxRecDepth 100000 in
theorem cmpP_laid : SlLaysC2.n5 Tryz.prog cmpP_ren := {
  mixed := by kernel_rfl
  f5 := ⟨Tryz.f121.name, by decide, Tryz.func121.trans (congrArg some (by kernel_rfl))⟩
  f7 := ⟨Tryz.f129.name, by decide, Tryz.func129.trans (congrArg some (by kernel_rfl))⟩
  t3 := Tryz.underlying3
  a3 := Tryz.isAgg3
  z3 := Tryz.sizeOf3
  v3 := Tryz.zeroValue3
  t4 := Tryz.underlying4
  a4 := Tryz.isAgg4
  z4 := Tryz.sizeOf4
  v4 := Tryz.zeroValue4
  t22 := Tryz.underlying3
  a22 := Tryz.isAgg3
  z22 := Tryz.sizeOf3
  v22 := Tryz.zeroValue3 }

def or3 (a b c : Int) : Int := if a ≠ 0 then a else if b ≠ 0 then b else c
theorem compare_at (x y : Int) (w : World) : Calls Tryz.prog 121 #[.int .i64 x, .int .i64 y] w fun e w' => e = .returned (.int .i64 (compareInt x y)) ∧ w' = w := AnyG.cmp_Compare_int cmpP_laid x y w
set_option maxRecDepth 100000 in
theorem or_at {w : World} {g : Nat} {a b c : Int} (h : Blk w g 3 [.int .i64 a, .int .i64 b, .int .i64 c]) :
    Calls Tryz.prog 120 #[.slice (some ⟨g, 0, none⟩) 3 3] w fun e w' => e = .returned (.int .i64 (or3 a b c)) ∧ w' = w := by
  have c0 := h.cell 0
  have c1 := h.cell 1
  have c2 := h.cell 2
  clear h
  simp only [List.getElem?_cons_zero, List.getElem?_cons_succ] at c0 c1 c2
  go_enter Tryz.func120, Tryz.ntmps120
  go_wp2
  refine wp_loop_rounds 4 ?_
  rw [rounds_succ]
  go_wp2
  all_goals first
    | (rw [rounds_succ]
       go_wp2
       all_goals first
         | (rw [rounds_succ]
            go_wp2
            all_goals first
              | (rw [rounds_succ]
                 go_wp2
                 go_returns
                 exact ⟨by simp_all [or3], rfl⟩)
              | (go_returns
                 exact ⟨by simp_all [or3], rfl⟩))
         | (go_returns
            exact ⟨by simp_all [or3], rfl⟩))
    | (go_returns
       exact ⟨by simp_all [or3], rfl⟩)

def cmpPl (x y : Pl) : Int := or3 (compareInt x.1 y.1) (compareInt x.2.1 y.2.1) (compareInt x.2.2 y.2.2)
attribute [local go_sem] Gw.withDeps Gw.relAt Gw.relUpon Gw.Stab.det Gw.preAct Gw.pres Gw.isPre
/-- A slice of three ints in a block of its own. -/
def three (A B C : Int) : Gw.Stab := ⟨fun v w => ∃ g, v = .slice (some ⟨g, 0, none⟩) 3 3 ∧ Blk w g 3 [.int .i64 A, .int .i64 B, .int .i64 C], fun _ _ _ ⟨g, h1, h2⟩ hm => ⟨g, h1, h2.mod hm.mod (by simp)⟩⟩
set_option maxRecDepth 100000 in
set_option maxHeartbeats 4000000 in
theorem place_cmp (x y : Pl) (w : World) :
    Calls Tryz.prog 105 #[kagg x, kagg y] w fun e w' => e = .returned (.int .i64 (cmpPl x y)) ∧ Gw.Gr w w' := by
  have hcm := compare_at
  have hor := @or_at
  unfold cmpPl
  have hbx := Blk.new w 51 (kvs x)
  have hby := Blk.new (w.alloc (.cells (kvs x).toArray 51)) 51 (kvs y)
  have hbx2 := hbx.alloc (.cells (kvs y).toArray 51)
  have hsz : (w.alloc (.cells (kvs x).toArray 51)).heap.size = w.heap.size + 1 := by simp
  rw [hsz] at hby
  have hg0 := ((Gw.Gr.refl w).alloc (.cells (kvs x).toArray 51)).alloc (.cells (kvs y).toArray 51)
  have FACTS : ∀ w', Gw.Gr ((w.alloc (.cells (kvs x).toArray 51)).alloc (.cells (kvs y).toArray 51)) w' → w'.cell? ⟨w.heap.size, 0, none⟩ = some (.int .i64 x.1) ∧ w'.cell? ⟨w.heap.size, 1, none⟩ = some (.int .i64 x.2.1) ∧ w'.cell? ⟨w.heap.size, 2, none⟩ = some (.int .i64 x.2.2) ∧
      w'.cell? ⟨w.heap.size + 1, 0, none⟩ = some (.int .i64 y.1) ∧ w'.cell? ⟨w.heap.size + 1, 1, none⟩ = some (.int .i64 y.2.1) ∧ w'.cell? ⟨w.heap.size + 1, 2, none⟩ = some (.int .i64 y.2.2) := fun w' hm =>
    have h1 := hbx2.mod hm.mod (by simp)
    have h2 := hby.mod hm.mod (by simp)
    ⟨h1.cell 0, h1.cell 1, h1.cell 2, h2.cell 0, h2.cell 1, h2.cell 2⟩
  simp only [kvs] at FACTS hg0
  clear hbx hby hbx2 hsz
  unfold kagg
  go_enter Tryz.func105, Tryz.ntmps105
  go_wp2_with fail
  refine Gw.wp_region_rel [some [], some [(0, 5)], some [], some [(2, 7)], some [(1, 6), (3, 8)], some [], some [(5, 10)], some [], some [(7, 12)], some [(6, 11), (8, 13)], some [], some [(10, 15)], some [], some [(12, 17)], some [(11, 16), (13, 18)], some [(4, 9), (9, 14), (14, 19)], some [(15, 20)]]
    [(0, 5), (1, 6), (2, 7), (3, 8), (4, 9), (5, 10), (6, 11), (7, 12), (8, 13), (9, 14), (10, 15), (11, 16), (12, 17), (13, 18), (14, 19), (15, 20), (16, 21)] (by kernel_rfl) (by kernel_rfl) ?_
  iterate 15
    apply Gw.relWalk_det
    · intro w' hm
      have F := FACTS w' hm
      go_simp
      first
        | exact ⟨Gw.Gr.refl _, rfl⟩
        | exact Gw.Gr.refl _
        | rfl
        | (refine (hcm _ _ _).mono ?_
           rintro e w3 ⟨rfl, rfl⟩
           exact Gw.relPost_det (Gw.Gr.refl _))
  apply Gw.relWalk_by (three (compareInt x.1 y.1) (compareInt x.2.1 y.2.1) (compareInt x.2.2 y.2.2))
  · intro w' hm
    go_simp
    exact ⟨(Gw.Gr.refl _).alloc _, _, rfl, Blk.new _ 3 [.int .i64 (compareInt x.1 y.1), .int .i64 (compareInt x.2.1 y.2.1), .int .i64 (compareInt x.2.2 y.2.2)]⟩
  apply Gw.relWalk_det
  · intro w' hm
    simp only [Gw.withDeps, List.nil_append, List.cons_append, List.getD_cons_zero, List.getD_cons_succ, three]
    rintro v ⟨g, rfl, hb⟩
    go_simp
    refine (hor hb).mono ?_
    rintro e w3 ⟨rfl, rfl⟩
    exact Gw.relPost_det (Gw.Gr.refl _)
  refine Gw.relWalk_end ?_
  intro w' hm
  simp only [Gw.withDeps, List.nil_append, List.cons_append, List.getD_cons_zero, List.getD_cons_succ, Gw.Stab.det, three, forall_eq]
  rintro v ⟨g, rfl, hb⟩
  go_wp2_with fail
  refine NoPanic.normal ?_
  go_wp2
  go_returns
  exact ⟨rfl, hg0.trans hm⟩
theorem place_lays (blk off size : Nat) (w : World) : CmpLays Tryz.prog 105 #[] kvs 3 cmpPl blk off size w := fun _ _ _ _ x y => (place_cmp x y _).mono fun _ _ ⟨he, hg⟩ => ⟨he, hg⟩
end Go.Proofs.YtpaiejeipghehaaGreat
end
section
/- The places of a map, rising: the one list that there is; a row of places behind the sort. No condition. -/
namespace Go.Proofs.YtpaiejeipghehaaGreat
open Go.Shelf Go.RowKit Go.Lib Go.Sort Go.Maps

def ltPl (x y : Pl) : Prop := x.1 < y.1 ∨ x.1 = y.1 ∧ (x.2.1 < y.2.1 ∨ x.2.1 = y.2.1 ∧ x.2.2 < y.2.2)
instance (x y : Pl) : Decidable (ltPl x y) := by unfold ltPl; infer_instance
theorem or3_lt (a b c : Int) : or3 a b c < 0 ↔ a < 0 ∨ a = 0 ∧ (b < 0 ∨ b = 0 ∧ c < 0) := by
  unfold or3
  by_cases ha : a = 0
  · by_cases hb : b = 0
    · rw [if_neg (by omega), if_neg (by omega)]; omega
    · rw [if_neg (by omega), if_pos hb]; omega
  · rw [if_pos ha]; omega
theorem ltOf_cmp (x y : Pl) : ltOf cmpPl x y = decide (ltPl x y) := by
  have key : ∀ a b : Int, (a < b ∧ compareInt a b = -1) ∨ (a = b ∧ compareInt a b = 0) ∨ (b < a ∧ compareInt a b = 1) := fun a b => by
    unfold compareInt
    rcases Int.lt_trichotomy a b with h | h | h
    · exact .inl ⟨h, by simp [h]⟩
    · exact .inr (.inl ⟨h, by simp [h]⟩)
    · exact .inr (.inr ⟨h, by rw [if_neg (by omega), if_pos h]⟩)
  unfold ltOf cmpPl
  rw [Bool.eq_iff_iff, decide_eq_true_iff, decide_eq_true_iff]
  unfold ltPl
  rw [or3_lt]
  have k1 := key x.1 y.1
  have k2 := key x.2.1 y.2.1
  have k3 := key x.2.2 y.2.2
  generalize compareInt x.1 y.1 = A at *
  generalize compareInt x.2.1 y.2.1 = B at *
  generalize compareInt x.2.2 y.2.2 = C at *
  constructor
  · intro h; omega
  · intro h; omega
theorem ltPl_trans {x y z : Pl} (h : ltPl x y) (k : ltPl y z) : ltPl x z := by unfold ltPl at *; omega
theorem ltPl_irrefl (x : Pl) : ¬ ltPl x x := by unfold ltPl; omega
theorem ltPl_total {x y : Pl} (h : ¬ ltPl x y) (k : ¬ ltPl y x) : x = y := by
  obtain ⟨a, b, c⟩ := x
  obtain ⟨d, e, f⟩ := y
  unfold ltPl at *
  simp only [Prod.mk.injEq]
  simp only at h k
  omega
theorem swoPl : SWO (ltOf cmpPl) where
  irrefl x := by rw [ltOf_cmp]; simpa using ltPl_irrefl x
  trans x y z h1 h2 := by rw [ltOf_cmp] at *; simp only [decide_eq_true_eq] at *; exact ltPl_trans h1 h2
  ntrans x y z h1 h2 := by rw [ltOf_cmp] at *; simp only [decide_eq_false_iff_not] at *; unfold ltPl at *; omega
theorem partPl (x y : Pl) (h : ltOf cmpPl x y = false) (k : ltOf cmpPl y x = false) : x = y := by
  rw [ltOf_cmp] at *
  simp only [decide_eq_false_iff_not] at *
  exact ltPl_total h k
/-- L is the places of f, rising. -/
def IsPlaces (f : Pl → Int) (L : List Pl) : Prop := L.Pairwise ltPl ∧ ∀ p, p ∈ L ↔ PlWf p ∧ f p ≠ 0
theorem rising_unique : ∀ {l m : List Pl}, l.Pairwise ltPl → m.Pairwise ltPl → (∀ p, p ∈ l ↔ p ∈ m) → l = m
  | [], [], _, _, _ => rfl
  | [], b :: m, _, _, h => by have := (h b).2 (by simp); cases this
  | a :: l, [], _, _, h => by have := (h a).1 (by simp); cases this
  | a :: l, b :: m, h1, h2, h => by
    obtain ⟨ha, hl⟩ := List.pairwise_cons.1 h1
    obtain ⟨hb, hm⟩ := List.pairwise_cons.1 h2
    have e : a = b := by
      rcases List.mem_cons.1 ((h a).1 (by simp)) with e | e
      · exact e
      · rcases List.mem_cons.1 ((h b).2 (by simp)) with k | k
        · exact k.symm
        · exact absurd (ltPl_trans (ha b k) (hb a e)) (ltPl_irrefl a)
    subst e
    rw [rising_unique hl hm fun p => ?_]
    constructor
    · intro hp
      rcases List.mem_cons.1 ((h p).1 (by simp [hp])) with e | e
      · subst e; exact absurd (ha p hp) (ltPl_irrefl p)
      · exact e
    · intro hp
      rcases List.mem_cons.1 ((h p).2 (by simp [hp])) with e | e
      · subst e; exact absurd (hb p hp) (ltPl_irrefl p)
      · exact e
open Classical in
noncomputable def placesOf (f : Pl → Int) : List Pl := if h : ∃ L, IsPlaces f L then h.choose else []
theorem placesOf_eq {f : Pl → Int} {L : List Pl} (h : IsPlaces f L) : placesOf f = L := by
  unfold placesOf
  have hx : ∃ L, IsPlaces f L := ⟨L, h⟩
  rw [dif_pos hx]
  have k := hx.choose_spec
  exact rising_unique k.1 h.1 fun p => by rw [k.2, h.2]
theorem isPlaces_sorted {f : Pl → Int} {ss : List Pl} (hn : ss.Nodup) (hm : ∀ p, p ∈ ss ↔ PlWf p ∧ f p ≠ 0) : IsPlaces f (ss.mergeSort fun x y => !(ltOf cmpPl) y x) := by
  constructor
  · have hp := List.pairwise_mergeSort (le := fun x y => !(ltOf cmpPl) y x) (fun a b c h1 h2 => by
      simp only [Bool.not_eq_true'] at *
      exact swoPl.ntrans _ _ _ h2 h1) (fun a b => by
      cases h1 : ltOf cmpPl b a <;> cases h2 : ltOf cmpPl a b <;> simp
      have := swoPl.trans _ _ _ h1 h2
      rw [swoPl.irrefl] at this
      cases this) ss
    have hd : (ss.mergeSort fun x y => !(ltOf cmpPl) y x).Pairwise (· ≠ ·) := (List.mergeSort_perm ss _).nodup_iff.2 hn
    refine (hp.and hd).imp fun {a b} h => ?_
    obtain ⟨h1, h2⟩ := h
    simp only [Bool.not_eq_true'] at h1
    cases h3 : ltOf cmpPl a b with
    | true => rw [ltOf_cmp] at h3; simpa using h3
    | false => exact absurd (partPl _ _ h3 h1) h2
  · intro p
    rw [(List.mergeSort_perm ss _).mem_iff, hm]

/-- A row of places as a slice's. -/
def plRow (L : List Pl) : Nat → List Value := fun i => kvs (L.getD i (0, 0, 0))
theorem kvs_flat (ss : List Pl) : ∀ (i j : Nat), i < ss.length → j < 3 → (ss.flatMap kvs)[i * 3 + j]? = (kvs (ss.getD i (0, 0, 0)))[j]? := by
  induction ss with
  | nil => intro i j hi; cases hi
  | cons a r ih =>
    intro i j hi hj
    rw [List.flatMap_cons]
    cases i with
    | zero => rw [List.getElem?_append_left (by simp; omega)]; simp
    | succ i =>
      rw [List.getElem?_append_right (by simp; omega)]
      have := ih i j (by simpa using hi) hj
      simp only [List.length_cons, List.length_nil] at *
      rw [show (i + 1) * 3 + j - (0 + 1 + 1 + 1) = i * 3 + j by omega, this]
      simp
theorem kvs_get (p : Pl) : ∀ (j : Nat), j < 3 → some (kvs p)[j]! = (kvs p)[j]?
  | 0, _ => rfl
  | 1, _ => rfl
  | 2, _ => rfl
  | n + 3, h => by omega
theorem row_ok (p : Pl) : RowOK 3 (kvs p) := ⟨rfl, kvs_one p⟩
theorem vec_of_owns {w : World} {base n : Nat} {v : Value} {ss : List Pl} {t : TypeId} (h : w.ownsRow base t 3 v n (ss.flatMap kvs)) (hn : n = ss.length) : ∃ (sp : Spot) (own : List Nat), v = .slice sp.ad n sp.cap ∧ VecAt (plRow ss) n t 3 sp own w ∧ ∀ b ∈ own, base ≤ b := by
  subst hn
  obtain ⟨h0, h⟩ := h
  rcases h with ⟨rfl, hz⟩ | ⟨g, cap, cur, rfl, hb, hg, h1, h2, h3, h4⟩
  · refine ⟨⟨0, 0, 0, 3, ss.length, none⟩, [], by rw [hz], ⟨rfl, rfl, by simp [hz], fun i hi => row_ok _, rfl, rfl⟩, by simp⟩
  · refine ⟨⟨g, cap, 0, 3, ss.length, some ⟨g, 0, none⟩⟩, [g], rfl, ⟨rfl, rfl, h1, fun i hi => row_ok _, rfl, rfl, cur, hg, by simp [h3], fun i hi j hj => ?_⟩, by simpa using hb⟩
    have hlt : i * 3 + j < ss.length * 3 := by omega
    have e := kvs_flat ss i j hi hj
    rw [← h4, List.getElem?_take_of_lt hlt] at e
    simp only [Nat.zero_add]
    rw [← Array.getElem?_toList, e]
    rfl
theorem holdsK_of_block {w : World} {g : Nat} {cur : Array Value} {e : TypeId} {ss : List Pl} (hb : w.heap[g]? = some (.cells cur e (0, 0))) (ht : cur.toList.take (ss.length * 3) = ss.flatMap kvs) : HoldsK kvs 3 w g 0 ss.toArray := by
  intro t ht'
  rw [size_flatK] at ht'
  simp only [List.size_toArray] at ht'
  rw [get_flatK _ _ _ _ (by simpa using ht')]
  refine ⟨?_, by simp [World.frozen?, hb]⟩
  have h1 : (cur.toList.take (ss.length * 3))[t]? = (ss.flatMap kvs)[t]? := by rw [ht]
  rw [List.getElem?_take_of_lt ht'] at h1
  have hq : t / 3 < ss.length := by omega
  have e := kvs_flat ss (t / 3) (t % 3) hq (by omega)
  rw [show t / 3 * 3 + t % 3 = t by omega] at e
  simp only [World.cell?, hb, Nat.zero_add]
  simp only [Option.isSome_none, Bool.false_eq_true, if_false]
  rw [← Array.getElem?_toList, h1, e]
  have e2 : ss.toArray[t / 3]! = ss.getD (t / 3) (0, 0, 0) := by simp [hq, List.getD]
  rw [e2, ← kvs_get _ _ (by omega : t % 3 < 3)]
  rfl
theorem heap_sortedK {w : World} {g n : Nat} {os : Array Obj} {cur : Array Value} {e : TypeId} {fr : Nat × Nat} (d : Array Pl) (hb : w.heap[g]? = some (.cells cur e fr)) : (sortWorldK kvs 3 w g 0 n d os).heap[g]? = some (.cells (putCells id 0 (flatK kvs 3 d) cur) e fr) := by
  have hg : g < w.heap.size := (Array.getElem?_eq_some_iff.1 hb).1
  unfold sortWorldK putRowK
  rw [heap_grow_old _ _ (by simpa using hg)]
  simp [putRow, mapBlock, Sort.ahead, Array.getElem?_modify, hb, onCells]
theorem grownBy_sortedK {w : World} {g n : Nat} {os : Array Obj} (d : Array Pl) : w.grownBy (sortWorldK kvs 3 w g 0 n d os) (some g) := by
  unfold sortWorldK putRowK
  refine ⟨rfl, rfl, rfl, by simp, fun k hk hne => ?_⟩
  rw [heap_grow_old _ _ (by simpa using hk)]
  have : g ≠ k := fun e => hne (by rw [e])
  simp [putRow, mapBlock, Sort.ahead, Array.getElem?_modify, this]
theorem vec_sorted {w : World} {g n cap m : Nat} {os : Array Obj} {cur : Array Value} (ts : List Pl) (hl : ts.length = m) (hb : w.heap[g]? = some (.cells cur 51 (0, 0))) (h1 : m ≤ cap) (h3 : cur.size = cap * 3) :
    VecAt (plRow ts) m 51 3 ⟨g, cap, 0, 3, m, some ⟨g, 0, none⟩⟩ [g] (sortWorldK kvs 3 w g 0 n ts.toArray os) := by
  refine ⟨rfl, rfl, h1, fun i hi => row_ok _, rfl, rfl, _, heap_sortedK _ hb, by simp [putCells, h3], fun i hi j hj => ?_⟩
  subst hl
  have hlt : i * 3 + j < ts.length * 3 := by omega
  have hlt2 : i * 3 + j < cur.size := by omega
  simp only [Nat.zero_add, putCells, Array.getElem?_mapIdx, size_flatK, List.size_toArray, Nat.zero_le, true_and, hlt, if_true, Nat.sub_zero, id, Array.getElem?_eq_getElem hlt2, Option.map_some]
  rw [get_flatK _ _ _ _ (by simpa using hlt), show (i * 3 + j) / 3 = i by omega, show (i * 3 + j) % 3 = j by omega]
  have e2 : ts.toArray[i]! = ts.getD i (0, 0, 0) := by simp [hi, List.getD]
  rw [e2, kvs_get _ _ hj]
  rfl
end Go.Proofs.YtpaiejeipghehaaGreat
end
section
/- slices.SortedFunc at places, and cell's Places: a new row of the places whose word is not 0, rising. Condition: the map is small. -/
namespace Go.Proofs.YtpaiejeipghehaaGreat
open Go.Shelf Go.RowKit Go.Lib Go.Sort Go.Maps

/-- A new row of places. -/
def NewRow (base : Nat) (v : Value) (L : List Pl) (w : World) : Prop := ∃ (sp : Spot) (own : List Nat), v = .slice sp.ad L.length sp.cap ∧ VecAt (plRow L) L.length 51 3 sp own w ∧ ∀ b ∈ own, base ≤ b
abbrev sortPl (ss : List Pl) : List Pl := ss.mergeSort fun x y => !(ltOf cmpPl) y x
theorem sort_calls (blk cap : Nat) (ss : List Pl) (W : World) (hH : HoldsK kvs 3 W blk 0 ss.toArray) (hblk : blk < W.heap.size) (hsz : ss.length < 4611686018427387904) :
    Calls Tryz.prog 118 #[.slice (some ⟨blk, 0, none⟩) ss.length cap, .func (.func 105) #[] #[]] W fun e w' => e = .returned (.tuple #[]) ∧ ∃ n os, w' = sortWorldK kvs 3 W blk 0 n (sortPl ss).toArray os :=
  AnyQ.slices_SortFunc_total sortP_laid 3 Tryz.isAgg51 Tryz.sizeOf51 kvs (fun _ => rfl) kvs_one cmpPl swoPl 105 #[] blk 0 cap ss.toArray W (enters_of Tryz.func105 (by kernel_rfl) rfl) (place_lays _ _ _ _) hH hblk (by simpa using hsz) partPl
theorem sort_none (p : Option Addr) (cap : Nat) (W : World) :
    Calls Tryz.prog 118 #[.slice p 0 cap, .func (.func 105) #[] #[]] W fun e w' => e = .returned (.tuple #[]) ∧ w' = W :=
  AnyF.slices_SortFunc_none (P := Tryz.prog) (ρ := sortP_ren) { sortP_laid with } p cap _ W
set_option maxRecDepth 100000 in
set_option maxHeartbeats 2000000 in
theorem sorted_in (n : Nat) (hn : 4 ≤ n) (g : Nat) (lb : Array Value) (eg : ∀ args w, (callFunc g args).run Tryz.prog w = .ok (.enter g args) w)
    (S : List Pl → Prop) (N : Nat) (hN : N ≤ maxLen) (hNb : N * 24 ≤ 140737488355328) (w : World) (hseq : SeqGives Fence.wide (n - 1 - 1 - 1) Tryz.prog g lb kv S N w) :
    CallsIn Fence.wide n Tryz.prog 103 #[.func (.func g) #[] lb, .func (.func 105) #[] #[]] w fun e w' => ∃ (v : Value) (ss : List Pl), e = .returned v ∧ S ss ∧ NewRow w.heap.size v (sortPl ss) w' ∧ Below w.heap.size w w' := by
  have h1 : 1 ≤ n := by omega
  have h8 : Fence.wide.fn 117 := trivial
  have h9 : Fence.wide.fn 118 := trivial
  have e8 : ∀ args w, (callFunc 117 args).run Tryz.prog w = .ok (.enter 117 args) w := enters_of Tryz.func117 (by kernel_rfl) rfl
  have e9 : ∀ args w, (callFunc 118 args).run Tryz.prog w = .ok (.enter 118 args) w := enters_of Tryz.func118 (by kernel_rfl) rfl
  have cC := collect_in Fence.wide (n - 1) trivial trivial rfl (by omega) g lb trivial eg _ N hN hNb w hseq.bounded
  refine callsIn_of_wp Tryz.func103 rfl trivial ?_ rfl
  simp only [Tryz.ntmps103, List.size_toArray, List.length_cons, List.length_nil, Nat.reduceAdd, Nat.reduceSub, Array.replicate_succ, Array.replicate_zero, List.push_toArray, List.append_toArray, List.nil_append, List.cons_append]
  gi_wp2_with (gi_at_fn 117; refine cC.mono ?_; rintro e W ⟨v, ss, rfl, ⟨hS, hlen⟩, hrow, hnil, hb⟩)
  rcases hrow.2 with ⟨rfl, hz⟩ | ⟨gb, cap, cur, rfl, hbase, hgb, r1, r2, r3, r4⟩
  · have hss : ss = [] := List.eq_nil_of_length_eq_zero hz
    subst hss
    gi_wp2_with (gi_at_fn 118; refine (callsIn_wide.2 (sort_none none 0 W)).mono ?_; rintro e w' ⟨rfl, rfl⟩)
    go_ret
    obtain ⟨sp, own, h1, h2, h3⟩ := vec_of_owns hrow rfl
    refine ⟨_, [], rfl, hS, ?_, hb⟩
    simp only [sortPl, List.mergeSort_nil]
    exact ⟨sp, own, h1, h2, h3⟩
  · have hH : HoldsK kvs 3 W gb 0 ss.toArray := holdsK_of_block hgb r4
    have hgl : gb < W.heap.size := (Array.getElem?_eq_some_iff.1 hgb).1
    have hsz : ss.length < 4611686018427387904 := by omega
    have cS := sort_calls gb cap ss W hH hgl hsz
    have hlm : (sortPl ss).length = ss.length := List.length_mergeSort ss
    gi_wp2_with (gi_at_fn 118; refine (callsIn_wide.2 cS).mono ?_; rintro e w' ⟨rfl, nn, os, rfl⟩)
    go_ret
    refine ⟨_, ss, rfl, hS, ⟨_, _, ?_, vec_sorted (sortPl ss) rfl hgb (by omega) r3, by simpa using hbase⟩, hb.grown (grownBy_sortedK _) hb.size (fun j hj => by cases hj; exact hbase)⟩
    rw [hlm]
    rfl
set_option maxRecDepth 100000 in
set_option maxHeartbeats 2000000 in
theorem places_at {w : World} {c o b n : Nat} {f : Pl → Int} (h0 : w.cell? ⟨c, o, none⟩ = some (.map (some b))) (hm : MapAt w b f n) (hn : n ≤ 1000000) :
    Calls Tryz.prog 76 #[.pointer (some ⟨c, o, none⟩)] w fun e w' => ∃ v, e = .returned v ∧ NewRow w.heap.size v (placesOf f) w' ∧ IsPlaces f (placesOf f) ∧ Below w.heap.size w w' := by
  obtain ⟨D, hown, hat, hhas⟩ := hm
  have hbl := hown.lt
  have hsz := hown.size_le
  have hseq : SeqGives Fence.wide 5 Tryz.prog 119 #[.pointer (some ⟨w.heap.size, 0, none⟩)] kv (fun ss => ss.Nodup ∧ (∀ x ∈ ss, PlWf x) ∧ ∀ x, PlWf x → (x ∈ ss ↔ has D (litP x) = true)) (Maps.size D) (w.alloc (.cells #[.map (some b)] 174)) :=
    keys_gives Fence.wide _ trivial rfl (by omega) w.heap.size b n D _ (by simp) (by simp) (by
      obtain ⟨es, clock, hb, Ft, hs, hD⟩ := hown
      exact ⟨es, clock, (Below.heap_alloc _ _ b hbl).trans hb, Ft, hs, hD⟩)
  have cK : ∀ mb W, CallsIn Fence.wide 8 Tryz.prog 104 #[.map mb] W fun e w' => e = .returned (.func (.func 119) #[] #[.pointer (some ⟨W.heap.size, 0, none⟩)]) ∧ w' = W.alloc (.cells #[.map mb] 174) := fun mb W => keys_in Fence.wide 8 trivial rfl mb W
  have cS := sorted_in 8 (by omega) 119 #[.pointer (some ⟨w.heap.size, 0, none⟩)] (enters_of Tryz.func119 (by kernel_rfl) rfl) _ _ (by unfold maxLen; omega) (by omega) _ hseq
  have hfK : Fence.wide.fn 104 := trivial
  have hfS : Fence.wide.fn 103 := trivial
  have eK := enters_of Tryz.func104 (by kernel_rfl) rfl
  have eS := enters_of Tryz.func103 (by kernel_rfl) rfl
  refine (callsIn_wide (n := 9)).1 ?_
  refine callsIn_of_wp Tryz.func76 rfl trivial ?_ rfl
  simp only [Tryz.ntmps76, List.size_toArray, List.length_cons, List.length_nil, Nat.reduceAdd, Nat.reduceSub, Array.replicate_succ, Array.replicate_zero, List.push_toArray, List.append_toArray, List.nil_append, List.cons_append]
  gi_wp2
  refine (cK _ _).mono ?_
  rintro e w' ⟨rfl, rfl⟩
  gi_wp2
  refine cS.mono ?_
  rintro e w' ⟨v, ss, rfl, ⟨hS1, hS2, hS3⟩, hrow, hb⟩
  gi_wp2
  go_ret
  have hip : IsPlaces f (sortPl ss) := isPlaces_sorted hS1 fun p => by
    constructor
    · intro hp
      refine ⟨hS2 p hp, ?_⟩
      have h1 := (hS3 p (hS2 p hp)).1 hp
      rw [hhas p (hS2 p hp)] at h1
      simpa using h1
    · rintro ⟨h1, h2⟩
      exact (hS3 p h1).2 (by rw [hhas p h1]; simpa using h2)
  rw [placesOf_eq hip]
  obtain ⟨sp, own, g1, g2, g3⟩ := hrow
  exact ⟨_, rfl, ⟨sp, own, g1, g2, fun b hb => by have := g3 b hb; simp at this; omega⟩, hip, ((Below.refl _ w).alloc (Nat.le_refl _) _).trans (hb.mono (by simp))⟩
end Go.Proofs.YtpaiejeipghehaaGreat
end
section
/- maps.Clone at maps of places: the shelf's contract, laid at this program. -/
namespace Go.Proofs.YtpaiejeipghehaaGreat
open Go.Shelf Go.RowKit

def clone_ren : Go.Shelf.Ren := ⟨fun | 5 => 116 | 7 => 125 | n => n, fun | 23 => 174 | 25 => 51 | 3 => 23 | 4 => 4 | 20 => 20 | n => n, fun n => n⟩
theorem clone_laid : SlLaysW.n5 Tryz.prog clone_ren := {
  mixed := by kernel_rfl
  f5 := ⟨Tryz.f116.name, by decide, Tryz.func116.trans (congrArg some (by kernel_rfl))⟩
  f7 := Tryz.func125.trans (congrArg some (by kernel_rfl))
  t4 := Tryz.underlying4
  a4 := Tryz.isAgg4
  z4 := Tryz.sizeOf4
  v4 := Tryz.zeroValue4
  t20 := Tryz.underlying20
  a20 := Tryz.isAgg20
  z20 := Tryz.sizeOf20
  v20 := Tryz.zeroValue20
  t23 := Tryz.underlying174
  a23 := Tryz.isAgg174
  z23 := Tryz.sizeOf174
  v23 := Tryz.zeroValue174 }

theorem clone_at {w : World} {b n : Nat} {f : Pl → Int} (m : MapAt w b f n) :
    Calls Tryz.prog 116 #[.map (some b)] w fun e w' => e = .returned (.map (some w.heap.size)) ∧ MapAt w' w.heap.size f n ∧ Below w.heap.size w w' := by
  obtain ⟨D, o, a, h⟩ := m
  refine (AnyW.maps_Clone_owns clone_laid 51 (plainElem Tryz.prog 23) b n D w o).mono ?_
  rintro e w' ⟨rfl, h1, _, h2⟩
  exact ⟨rfl, ⟨D, h1, a, h⟩, h2⟩
end Go.Proofs.YtpaiejeipghehaaGreat
end
section
/- maps.Clone and maps.Equal at maps of places, as known calls. -/
namespace Go.Proofs.YtpaiejeipghehaaGreat
open Go.RowKit


/-- Whether two maps are one, at all places that there are. -/
noncomputable def samePl (f g : Pl → Int) : Bool := @decide (∀ p, PlWf p → f p = g p) (Classical.propDecidable _)
theorem samePl_iff {f g : Pl → Int} : samePl f g = true ↔ ∀ p, PlWf p → f p = g p := by unfold samePl; exact @decide_eq_true_iff _ (Classical.propDecidable _)
def cloneX : List SV → M Rep SV
  | [.mp n] => (getC n).bind fun
    | .rep (.pmap l g c) => (newC (.rep (.pmap l g c))).bind fun k => .ret (.mp k)
    | _ => .fail 330
  | _ => .fail 331
noncomputable def primM (f : FuncId) (args : List SV) : Option (M Rep SV) := match Nat.beq f 116 with
  | true => some (cloneX args)
  | false => none
theorem clone_s {args : List SV} {st st' : St Rep} {s : SV} (h : cloneX args st = .ok s st') : CallS repAt Tryz.prog 116 args st st' s := by
  unfold cloneX at h
  split at h
  · next n =>
    obtain ⟨c, st1, h3, h4⟩ := bind_ok.1 h
    obtain ⟨hc, rfl⟩ := getC_ok.1 h3
    split at h4
    · next l g cnt =>
      obtain ⟨k, st2, h5, h6⟩ := bind_ok.1 h4
      obtain ⟨rfl, rfl⟩ := newC_ok.1 h5
      obtain ⟨rfl, rfl⟩ := ret_ok.1 h6
      have q : Quiet st { st with fr := insN n st.fr } := Quiet.get
      refine ⟨q.fn.trans (Fn.new _ _), fun B F ρ own w vals si hv => ?_⟩
      have s1 := si.of_quiet q
      obtain ⟨e, he, hat⟩ := s1.li.at_ n _ (s1.log n (mem_ins.2 (.inl rfl))) hc
      simp only [denL, den, he, Option.map_some, Option.some.injEq] at hv
      subst hv
      refine (clone_at (CAt_rep.1 hat).2).mono ?_
      rintro ex w' ⟨rfl, hm, hb⟩
      have ht := Tr.new (w' := w') s1 ⟨w.heap.size, 0, 0, 0, 0, none⟩ [w.heap.size] ⟨hb.os, hb.tape, hb.output, hb.size, fun k hk _ => hb.block k hk⟩ (show Rep.At B (.pmap l g cnt) ⟨w.heap.size, 0, 0, 0, 0, none⟩ [w.heap.size] w' from ⟨rfl, hm⟩) (fun b hb' => by
        rw [List.mem_singleton] at hb'
        subst hb'
        exact ⟨Nat.le_refl _, hm.lt⟩)
      exact ⟨_, _, _, rfl, by simp [den, Names.put_same], Tr.of_quiet q ht⟩
    · exact (fail_ok.1 h4).elim
  · exact (fail_ok.1 h).elim
theorem primM_ok : ∀ f args m, primM f args = some m → ∀ st s st', m st = .ok s st' → CallS repAt Tryz.prog f args st st' s := by
  intro f args m hm st s st' h
  unfold primM at hm
  split at hm
  · next hb =>
    obtain rfl := Nat.eq_of_beq_eq_true hb
    cases hm
    exact clone_s h
  · cases hm
/-- With the calls on maps known. -/
noncomputable def Lib.maps (l : Lib Rep) : Lib Rep := ⟨fun f args => match primM f args with
  | some m => some m
  | none => l.prim f args, l.ext, l.tidy⟩
theorem Lib.maps_ok {l : Lib Rep} (hl : LibOK repAt Tryz.prog l) : LibOK repAt Tryz.prog l.maps := by
  refine ⟨fun f args m hm => ?_, hl.ext, hl.tidy⟩
  simp only [Lib.maps] at hm
  split at hm
  · next m' h =>
    injection hm with hm
    subst hm
    exact primM_ok f args m' h
  · exact hl.prim f args m hm
end Go.Proofs.YtpaiejeipghehaaGreat
end
section
/- cell's Places as a known call. -/
namespace Go.Proofs.YtpaiejeipghehaaGreat
open Go.RowKit

/-- Rows of places, column by column. -/
def colsPl (L : List Pl) : List Col := [.int .i64 fun i => (L.getD i (0, 0, 0)).1, .int .i64 fun i => (L.getD i (0, 0, 0)).2.1, .int .i64 fun i => (L.getD i (0, 0, 0)).2.2]
theorem colsPl_row (L : List Pl) : colsF (colsPl L) = plRow L := rfl
noncomputable def placesX : List SV → M Rep SV
  | [.ptr n o] => (getC n).bind fun
    | .row l _ => (M.opt 340 l[o]?).bind fun
      | .mp m => (getC m).bind fun
        | .rep (.pmap l g c) => (need 341 (Nat.ble c 1000000)).bind fun _ => (newC (.rep (.vec (colsPl (placesOf (getL l g))) (placesOf (getL l g)).length 51))).bind fun k => .ret (.tsl k (placesOf (getL l g)).length)
        | _ => .fail 342
      | _ => .fail 343
    | _ => .fail 344
  | _ => .fail 345
theorem vec_own_lt {f : Nat → List Value} {len k : Nat} {t : TypeId} {e : Spot} {own : List Nat} {w : World} (h : VecAt f len t k e own w) : ∀ b ∈ own, b < w.heap.size := by
  obtain ⟨_, _, _, _, h5⟩ := h
  intro b hb
  cases ha : e.ad with
  | none => rw [ha] at h5; rw [h5.1] at hb; cases hb
  | some g =>
    rw [ha] at h5
    obtain ⟨_, g2, cs, g3, _⟩ := h5
    rw [g2, List.mem_singleton] at hb
    subst hb
    exact heap_lt g3
theorem places_s {args : List SV} {st st' : St Rep} {s : SV} (h : placesX args st = .ok s st') : CallS repAt Tryz.prog 76 args st st' s := by
  unfold placesX at h
  split at h
  · next n o =>
    obtain ⟨c, st1, h3, h4⟩ := bind_ok.1 h
    obtain ⟨hc, rfl⟩ := getC_ok.1 h3
    split at h4
    · next l t =>
      obtain ⟨sv, _, h5, h6⟩ := bind_ok.1 h4
      obtain ⟨hsv, rfl⟩ := opt_ok.1 h5
      split at h6
      · next m =>
        obtain ⟨c2, st2, h7, h8⟩ := bind_ok.1 h6
        obtain ⟨hc2, rfl⟩ := getC_ok.1 h7
        split at h8
        · next l2 g cnt =>
          obtain ⟨_, st3, h9, h10⟩ := bind_ok.1 h8
          obtain ⟨q2, hq⟩ := need_ok h9
          obtain ⟨k, st4, h11, h12⟩ := bind_ok.1 h10
          obtain ⟨rfl, rfl⟩ := newC_ok.1 h11
          obtain ⟨rfl, rfl⟩ := ret_ok.1 h12
          have q : Quiet st st3 := (Quiet.get.trans (Quiet.get (n := m) (st := { st with fr := insN n st.fr }))).trans q2
          refine ⟨q.fn.trans (Fn.new _ _), fun B F ρ own w vals si hv => ?_⟩
          have s1 := si.of_quiet q
          have hn : n ∈ st3.fr := q2.fr n (mem_ins.2 (.inr (mem_ins.2 (.inl rfl))))
          have hm : m ∈ st3.fr := q2.fr m (mem_ins.2 (.inl rfl))
          obtain ⟨e, he, hat⟩ := s1.li.at_ n _ (s1.log n hn) (by rw [q.hp]; exact hc)
          obtain ⟨e2, he2, hat2⟩ := s1.li.at_ m _ (s1.log m hm) (by rw [q.hp]; exact hc2)
          simp only [denL, den, he, Option.map_some, Option.some.injEq] at hv
          subst hv
          obtain ⟨_, cs, vs, g1, g2, g3, _⟩ := hat
          obtain ⟨x, g5, g4⟩ := denL_get g2 hsv
          simp only [den, he2, Option.map_some, Option.some.injEq] at g5
          subst g5
          have hcell : w.cell? ⟨e.b, e.off + o, none⟩ = some (.map (some e2.b)) := by
            rw [cell_of_row w e.b _ cs t (0, 0) g1, g3 o (lt_of_some g4)]
            exact g4
          refine (places_at hcell (CAt_rep.1 hat2).2 (Nat.le_of_ble_eq_true (hq s1.ask))).mono ?_
          rintro ex w' ⟨v, rfl, ⟨sp, own0, rfl, hvec, hown⟩, _, hb⟩
          have ht := Tr.new (w' := w') s1 sp own0 ⟨hb.os, hb.tape, hb.output, hb.size, fun k hk _ => hb.block k hk⟩ (show Rep.At B (.vec (colsPl (placesOf (getL l2 g))) (placesOf (getL l2 g)).length 51) sp own0 w' from hvec) (fun b hb' => ⟨hown b hb', vec_own_lt hvec b hb'⟩)
          exact ⟨_, _, _, rfl, by simp [den, Names.put_same], Tr.of_quiet q ht⟩
        · exact (fail_ok.1 h8).elim
      · exact (fail_ok.1 h6).elim
    · exact (fail_ok.1 h4).elim
  · exact (fail_ok.1 h).elim
noncomputable def primP (f : FuncId) (args : List SV) : Option (M Rep SV) := match Nat.beq f 76 with
  | true => match args with
    | [.ptr _ _] => some (placesX args)
    | _ => none
  | false => primM f args
theorem primP_ok : ∀ f args m, primP f args = some m → ∀ st s st', m st = .ok s st' → CallS repAt Tryz.prog f args st st' s := by
  intro f args m hm st s st' h
  unfold primP at hm
  split at hm
  · next hb =>
    obtain rfl := Nat.eq_of_beq_eq_true hb
    split at hm <;> cases hm
    exact places_s h
  · exact primM_ok f args m hm st s st' h
/-- With the calls on maps known, and Places. -/
noncomputable def Lib.cells (l : Lib Rep) : Lib Rep := ⟨fun f args => match primP f args with
  | some m => some m
  | none => l.prim f args, l.ext, l.tidy⟩
theorem Lib.cells_ok {l : Lib Rep} (hl : LibOK repAt Tryz.prog l) : LibOK repAt Tryz.prog l.cells := by
  refine ⟨fun f args m hm => ?_, hl.ext, hl.tidy⟩
  simp only [Lib.cells] at hm
  split at hm
  · next m' h =>
    injection hm with hm
    subst hm
    exact primP_ok f args m' h
  · exact hl.prim f args m hm
end Go.Proofs.YtpaiejeipghehaaGreat
end
section
/- The document's Places: the states at its loops' heads. No condition. -/
namespace Go.Proofs.YtpaiejeipghehaaGreat
open Go.RowKit
noncomputable abbrev upF : FuncId := 56
noncomputable abbrev upZ : Nat := slotsOf Tryz.prog upF
noncomputable def upL : Code × List Fr := loopOf Tryz.prog upF 0
noncomputable def upM : Code × List Fr := loopIn upL 0
def kLess : List SV → Option SV
  | [a, b] => match plOf a, plOf b with
    | some p, some q => some (.v (.bool (decide (ltPl p q))))
    | _, _ => none
  | _ => none
structure UB where
  A0 : Nat → Int
  A1 : Nat → Int
  A2 : Nat → Int
  W : Nat → Int
  len : Nat
def UB.key (a : UB) (k : Nat) : Pl := (a.A0 k, a.A1 k, a.A2 k)
/-- The rows out, told as a list. -/
def RowsOf (B0 B1 B2 : Nat → Int) (L : List Pl) : Prop := ∀ j, j < L.length → (B0 j, B1 j, B2 j) = L.getD j (0, 0, 0)
def upS (a : UB) (B0 B1 B2 : Nat → Int) (m : Nat) (i : Int) : Sym Rep :=
  ⟨[(3, .tsl 1 m), (0, .ptr 0 0), (4, iv i)], [(0, .row [.tsl 2 a.len] tRC), (1, .rep (.vec [.int .i64 B0, .int .i64 B1, .int .i64 B2] m 51)), (2, .rep (.vec (oneCols a.A0 a.A1 a.A2 a.W) a.len tOne))], 3⟩
def upS2 (a : UB) (B0 B1 B2 : Nat → Int) (m : Nat) (i k : Int) : Sym Rep :=
  ⟨[(3, .tsl 1 m), (0, .ptr 0 0), (4, iv i), (5, iv k)], [(0, .row [.tsl 2 a.len] tRC), (1, .rep (.vec [.int .i64 B0, .int .i64 B1, .int .i64 B2] m 51)), (2, .rep (.vec (oneCols a.A0 a.A1 a.A2 a.W) a.len tOne))], 3⟩
def upCfg0 : Stop → List Gen × List Nat := fun _ => ([.row 1 0 [.int .i64, .int .i64, .int .i64]], [3, 0, 4])
def upCfg : Stop → List Gen × List Nat
  | .fin .ret _ => ([], [2])
  | _ => ([], [3, 0, 4])
def upCfg2 : Stop → List Gen × List Nat
  | .fin .ret _ => ([], [2])
  | _ => ([], [3, 0, 4, 5])
/-- What has come of the first i. -/
def Came (a : UB) (i : Nat) (L : List Pl) : Prop := ∀ p, p ∈ L ↔ ∃ j, j < i ∧ a.key j = p ∧ a.W j ≠ 0
def UB.ok (a : UB) : Prop := a.len ≤ 1000000 ∧ ∀ i j, i < a.len → j < a.len → a.key i = a.key j → i = j
def UPP (a : UB) (B0 B1 B2 : Nat → Int) (m : Nat) (i : Int) : Prop := 0 ≤ i ∧ i ≤ (a.len : Int) ∧ (m : Int) ≤ i ∧ a.ok ∧ ∃ L, L.length = m ∧ RowsOf B0 B1 B2 L ∧ L.Pairwise ltPl ∧ Came a i.toNat L
def UPQ (a : UB) (B0 B1 B2 : Nat → Int) (m : Nat) (i k : Int) : Prop := 0 ≤ i ∧ i < (a.len : Int) ∧ (m : Int) ≤ i + 1 ∧ a.ok ∧ 0 ≤ k ∧ k < (m : Int) ∧ ∃ L1 x L2, L1.length = k.toNat ∧ (L1 ++ x :: L2).length = m ∧ RowsOf B0 B1 B2 (L1 ++ x :: L2) ∧ (L1 ++ L2).Pairwise ltPl ∧ (∀ y ∈ L2, ltPl x y) ∧ Came a i.toNat (L1 ++ L2) ∧ a.key i.toNat = x ∧ a.W i.toNat ≠ 0
theorem rows_join {B0 B1 B2 : Nat → Int} {L : List Pl} {m : Nat} (h : RowsOf B0 B1 B2 L) (hm : L.length = m) (x : Pl) : RowsOf (joinI B0 m fun _ => x.1) (joinI B1 m fun _ => x.2.1) (joinI B2 m fun _ => x.2.2) (L ++ [x]) := by
  subst hm
  intro j hj
  simp only [List.length_append, List.length_cons, List.length_nil] at hj
  by_cases e : j < L.length
  · rw [joinI_old e, joinI_old e, joinI_old e, h j e]
    simp [List.getD, List.getElem?_append_left e]
  · obtain rfl : j = L.length := by omega
    rw [joinI_new (Nat.le_refl _), joinI_new (Nat.le_refl _), joinI_new (Nat.le_refl _)]
    simp [List.getD]
theorem rows_swap {B0 B1 B2 : Nat → Int} {L1 L2 : List Pl} {x y : Pl} {k : Nat} (h : RowsOf B0 B1 B2 (L1 ++ y :: x :: L2)) (hk : L1.length = k) :
    RowsOf (updI (updI B0 (k + 1) (B0 k)) k (B0 (k + 1))) (updI (updI B1 (k + 1) (B1 k)) k (B1 (k + 1))) (updI (updI B2 (k + 1) (B2 k)) k (B2 (k + 1))) (L1 ++ x :: y :: L2) := by
  subst hk
  have hy := h L1.length (by simp)
  have hx := h (L1.length + 1) (by simp)
  simp only [Prod.mk.injEq, List.getD] at hy hx
  simp at hy hx
  intro j hj
  have hj2 : j < (L1 ++ y :: x :: L2).length := by simp only [List.length_append, List.length_cons] at hj ⊢; omega
  by_cases e : j = L1.length
  · subst e
    simp only [updI_same]
    simp [List.getD, hx]
  · rw [updI_other e, updI_other e, updI_other e]
    by_cases e2 : j = L1.length + 1
    · subst e2
      simp only [updI_same]
      simp [List.getD, hy]
    · rw [updI_other e2, updI_other e2, updI_other e2, h j hj2]
      simp only [List.getD]
      congr 1
      by_cases e3 : j < L1.length
      · rw [List.getElem?_append_left e3, List.getElem?_append_left e3]
      · rw [List.getElem?_append_right (by omega), List.getElem?_append_right (by omega)]
        obtain ⟨d, hd⟩ : ∃ d, j - L1.length = d + 2 := ⟨j - L1.length - 2, by omega⟩
        rw [hd]
        rfl
theorem came_skip {a : UB} {i : Nat} {L : List Pl} (h : Came a i L) (h0 : a.W i = 0) : Came a (i + 1) L := fun p => by
  rw [h p]
  constructor
  · rintro ⟨j, h1, h2⟩; exact ⟨j, by omega, h2⟩
  · rintro ⟨j, h1, h2, h3⟩
    refine ⟨j, ?_, h2, h3⟩
    rcases Nat.lt_or_ge j i with h | h
    · exact h
    · obtain rfl : j = i := by omega
      exact absurd h0 h3
theorem came_step {a : UB} {i : Nat} {L1 L2 : List Pl} {x : Pl} (h : Came a i (L1 ++ L2)) (hx : a.key i = x) (h0 : a.W i ≠ 0) : Came a (i + 1) (L1 ++ x :: L2) := fun p => by
  have hm : p ∈ L1 ++ x :: L2 ↔ p = x ∨ p ∈ L1 ++ L2 := by simp only [List.mem_append, List.mem_cons]; constructor <;> (intro h; rcases h with h | h | h <;> simp [h])
  rw [hm, h p]
  constructor
  · rintro (rfl | ⟨j, h1, h2⟩)
    · exact ⟨i, Nat.lt_succ_self _, hx, h0⟩
    · exact ⟨j, by omega, h2⟩
  · rintro ⟨j, h1, h2, h3⟩
    rcases Nat.lt_or_ge j i with h | h
    · exact .inr ⟨j, h, h2, h3⟩
    · obtain rfl : j = i := by omega
      exact .inl (h2.symm.trans hx)
end Go.Proofs.YtpaiejeipghehaaGreat
end
section
/- Calls whose answers are known. No condition. -/
namespace Go.Proofs.YtpaiejeipghehaaGreat
/-- A word and two ints in, a value out. -/
def kUII (g : Int → Int → Int → Value) : List SV → Option SV
  | [.v (.int .u64 a), .v (.int .i64 b), .v (.int .i64 c)] => some (.v (g a b c))
  | _ => none
/-- A link in, a value out. -/
def kLink (g : Bool → Int → Int → Value) : List SV → Option SV
  | [.agg [.v (.bool m), .v (.int .i64 b), .v (.int .i64 c)]] => some (.v (g m b c))
  | _ => none
theorem good_calls {f : FuncId} {args : List SV} {x : Value} (h : Good (fun o => run0 f args (St.none o)) (fun y => y = x)) {vals : List Value} (hv : denL noNames args = some vals) (w : World) : Calls Tryz.prog f vals.toArray w fun e w' => e = .returned x ∧ Mod [] w w' :=
  (good_ans run0_ok h w hv).mono fun e w' ⟨y, hy, he, hm⟩ => ⟨by rw [he, hy], hm⟩
end Go.Proofs.YtpaiejeipghehaaGreat
end
section
/- The document's Less, by its answer. No condition. -/
namespace Go.Proofs.YtpaiejeipghehaaGreat
set_option linter.unusedVariables false
set_option linter.unusedSimpArgs false
set_option maxRecDepth 100000
set_option maxHeartbeats 8000000

theorem less_good (p q : Pl)  : Good (fun o => run0 90 [.agg [iv p.1, iv p.2.1, iv p.2.2], .agg [iv q.1, iv q.2.1, iv q.2.2]] (St.none o)) (fun x => x = .bool (decide (ltPl p q))) := by
  rcases Bool.eq_false_or_eq_true (p.fst != q.fst) with h0 | h0
  · exact ⟨[some true], [((p.fst != q.fst), true)], Value.bool (decide (p.fst < q.fst)), by kernel_rfl, ⟨h0, trivial⟩, (by (congr 1; simp only [bne_iff_ne, beq_iff_eq, decide_eq_true_eq, decide_eq_false_iff_not, bne_eq_false_iff_eq, ne_eq] at *; first | (rw [Bool.eq_iff_iff, decide_eq_true_iff, decide_eq_true_iff]; unfold ltPl; omega) | (symm; rw [decide_eq_true_iff]; unfold ltPl; omega) | (symm; rw [decide_eq_false_iff_not]; unfold ltPl; omega)))⟩
  · rcases Bool.eq_false_or_eq_true (p.snd.fst != q.snd.fst) with h1 | h1
    · exact ⟨[some false] ++ [some true], [((p.snd.fst != q.snd.fst), true), ((p.fst != q.fst), false)], Value.bool (decide (p.snd.fst < q.snd.fst)), by kernel_rfl, ⟨h1, h0, trivial⟩, (by (congr 1; simp only [bne_iff_ne, beq_iff_eq, decide_eq_true_eq, decide_eq_false_iff_not, bne_eq_false_iff_eq, ne_eq] at *; first | (rw [Bool.eq_iff_iff, decide_eq_true_iff, decide_eq_true_iff]; unfold ltPl; omega) | (symm; rw [decide_eq_true_iff]; unfold ltPl; omega) | (symm; rw [decide_eq_false_iff_not]; unfold ltPl; omega)))⟩
    · exact ⟨[some false, some false], [((p.snd.fst != q.snd.fst), false), ((p.fst != q.fst), false)], Value.bool (decide (p.snd.snd < q.snd.snd)), by kernel_rfl, ⟨h1, h0, trivial⟩, (by (congr 1; simp only [bne_iff_ne, beq_iff_eq, decide_eq_true_eq, decide_eq_false_iff_not, bne_eq_false_iff_eq, ne_eq] at *; first | (rw [Bool.eq_iff_iff, decide_eq_true_iff, decide_eq_true_iff]; unfold ltPl; omega) | (symm; rw [decide_eq_true_iff]; unfold ltPl; omega) | (symm; rw [decide_eq_false_iff_not]; unfold ltPl; omega)))⟩
theorem less_tab : TabOK Tryz.prog (Tab.one 90 kLess) := TabOK.one fun args s hs ρ vals w hv => by
  unfold kLess at hs
  split at hs <;> try cases hs
  next a b =>
  split at hs <;> cases hs
  next p q hp hq =>
  obtain ⟨v1, vs1, e1, e2, rfl⟩ := denL_cons.1 hv
  obtain ⟨v2, vs2, e3, e4, rfl⟩ := denL_cons.1 e2
  simp only [denL, Option.some.injEq] at e4
  subst e4
  obtain rfl := plOf_den hp e1
  obtain rfl := plOf_den hq e3
  exact (good_calls (less_good p q) (vals := [kagg p, kagg q]) rfl w).mono fun e w' ⟨he, hm⟩ => ⟨_, he, rfl, hm⟩
end Go.Proofs.YtpaiejeipghehaaGreat
end
section
/- The document's Places: what its rounds do to the rows. No condition. -/
namespace Go.Proofs.YtpaiejeipghehaaGreat
open Go.RowKit
noncomputable def libP : Lib Rep := lib0.with (Tab.one 90 kLess)
theorem libP_ok : LibOK repAt Tryz.prog libP := Lib.with_ok lib0_ok less_tab
variable {a : UB} {B0 B1 B2 : Nat → Int} {m : Nat} {i k : Int}
theorem upp_skip (hP : UPP a B0 B1 B2 m i) (h0 : decide (i < (a.len : Int)) = true) (h : (a.W i.toNat == 0) = true) : UPP a B0 B1 B2 m (IntKind.i64.wrap (i + 1)) := by
  obtain ⟨i0, i1, hm, hok, L, hl, hr, hs, hc⟩ := hP
  have hlt := of_decide_eq_true h0
  have := hok.1
  rw [wrapI (by omega) (by omega)]
  refine ⟨by omega, by omega, by omega, hok, L, hl, hr, hs, ?_⟩
  rw [show (i + 1).toNat = i.toNat + 1 by omega]
  exact came_skip hc (by simpa using h)
theorem upp_push (hP : UPP a B0 B1 B2 m i) (h0 : decide (i < (a.len : Int)) = true) (h : (a.W i.toNat == 0) = false) :
    UPQ a (joinI B0 m fun _ => a.A0 i.toNat) (joinI B1 m fun _ => a.A1 i.toNat) (joinI B2 m fun _ => a.A2 i.toNat) (m + 1) i (IntKind.i64.wrap (((m + 1 : Nat) : Int) - 1)) := by
  obtain ⟨i0, i1, hm, hok, L, hl, hr, hs, hc⟩ := hP
  have hlt := of_decide_eq_true h0
  have := hok.1
  rw [wrapI (by omega) (by omega)]
  refine ⟨i0, hlt, by omega, hok, by omega, by omega, L, a.key i.toNat, [], by omega, by simp [hl], rows_join hr hl (a.key i.toNat), by simpa using hs, (fun y hy => by cases hy), by simpa using hc, rfl, by simpa using h⟩
theorem rows_at {L1 L2 : List Pl} {x : Pl} (hr : RowsOf B0 B1 B2 (L1 ++ x :: L2)) {n : Nat} (hn : L1.length = n) : (B0 n, B1 n, B2 n) = x := by
  subst hn
  rw [hr L1.length (by simp)]
  simp [List.getD]
theorem upq_step (hP : UPQ a B0 B1 B2 m i k) (h0 : decide (k > 0) = true) (h : decide (ltPl (B0 k.toNat, B1 k.toNat, B2 k.toNat) (B0 (IntKind.i64.wrap (k - 1)).toNat, B1 (IntKind.i64.wrap (k - 1)).toNat, B2 (IntKind.i64.wrap (k - 1)).toNat)) = true) :
    UPQ a (updI (updI B0 k.toNat (B0 (IntKind.i64.wrap (k - 1)).toNat)) (IntKind.i64.wrap (k - 1)).toNat (B0 k.toNat)) (updI (updI B1 k.toNat (B1 (IntKind.i64.wrap (k - 1)).toNat)) (IntKind.i64.wrap (k - 1)).toNat (B1 k.toNat)) (updI (updI B2 k.toNat (B2 (IntKind.i64.wrap (k - 1)).toNat)) (IntKind.i64.wrap (k - 1)).toNat (B2 k.toNat)) m i (IntKind.i64.wrap (k - 1)) := by
  obtain ⟨i0, i1, hm, hok, k0, k1, L1, x, L2, hl, hlen, hr, hs, hx, hc, hk, hw⟩ := hP
  have hk0 := of_decide_eq_true h0
  have hok1 := hok.1
  have hlt := of_decide_eq_true h
  rw [wrapI (x := k - 1) (by omega) (by omega)] at hlt ⊢
  have hne : L1 ≠ [] := fun e => by rw [e] at hl; simp at hl; omega
  obtain ⟨M, y, rfl⟩ : ∃ M y, L1 = M ++ [y] := ⟨L1.dropLast, L1.getLast hne, (List.dropLast_concat_getLast hne).symm⟩
  have hM : M.length = (k - 1).toNat := by simp at hl; omega
  have e1 : k.toNat = (k - 1).toNat + 1 := by omega
  rw [List.append_assoc] at hr hlen hs hc
  simp only [List.cons_append, List.nil_append] at hr hlen hs hc
  have hy := rows_at hr hM
  have hxx : (B0 k.toNat, B1 k.toNat, B2 k.toNat) = x := by
    have hr' : RowsOf B0 B1 B2 ((M ++ [y]) ++ x :: L2) := by rw [List.append_assoc]; exact hr
    exact rows_at hr' (by simp; omega)
  rw [hxx, hy] at hlt
  refine ⟨i0, i1, hm, hok, by omega, by omega, M, x, y :: L2, hM, by simp at hlen ⊢; omega, ?_, hs, fun z hz => ?_, hc, hk, hw⟩
  · have := rows_swap hr hM
    rw [e1]
    exact this
  · rcases List.mem_cons.1 hz with rfl | hz
    · exact hlt
    · exact hx z hz
theorem upq_end (hP : UPQ a B0 B1 B2 m i k) (h : k ≤ 0 ∨ decide (ltPl (B0 k.toNat, B1 k.toNat, B2 k.toNat) (B0 (IntKind.i64.wrap (k - 1)).toNat, B1 (IntKind.i64.wrap (k - 1)).toNat, B2 (IntKind.i64.wrap (k - 1)).toNat)) = false) :
    UPP a B0 B1 B2 m (IntKind.i64.wrap (i + 1)) := by
  obtain ⟨i0, i1, hm, hok, k0, k1, L1, x, L2, hl, hlen, hr, hs, hx, hc, hk, hw⟩ := hP
  have hok1 := hok.1
  rw [wrapI (x := i + 1) (by omega) (by omega)]
  have hfresh : x ∉ L1 ++ L2 := fun hin => by
    obtain ⟨j, h1, h2, _⟩ := (hc x).1 hin
    have := hok.2 j i.toNat (by omega) (by omega) (h2.trans hk.symm)
    omega
  have hbelow : ∀ y ∈ L1, ltPl y x := by
    intro y hy
    by_cases hk0 : k ≤ 0
    · have : L1 = [] := List.eq_nil_of_length_eq_zero (by omega)
      subst this
      cases hy
    · have hlt := of_decide_eq_false (h.resolve_left hk0)
      rw [wrapI (x := k - 1) (by omega) (by omega)] at hlt
      have hne : L1 ≠ [] := fun e => by rw [e] at hl; simp at hl; omega
      obtain ⟨M, z, rfl⟩ : ∃ M z, L1 = M ++ [z] := ⟨L1.dropLast, L1.getLast hne, (List.dropLast_concat_getLast hne).symm⟩
      have hM : M.length = (k - 1).toNat := by simp at hl; omega
      have hxx := rows_at hr hl
      have hr2 : RowsOf B0 B1 B2 (M ++ z :: x :: L2) := by rw [List.append_assoc] at hr; exact hr
      have hz := rows_at hr2 hM
      rw [hxx, hz] at hlt
      have hzx : ltPl z x := by
        by_cases hzx : ltPl z x
        · exact hzx
        · exact absurd (ltPl_total hlt hzx) (fun e => hfresh (by rw [e]; simp))
      rcases List.mem_append.1 hy with hy | hy
      · rw [List.append_assoc] at hs
        exact ltPl_trans ((List.pairwise_append.1 hs).2.2 y hy z (by simp)) hzx
      · rw [List.mem_singleton] at hy; subst hy; exact hzx
  have hs' := List.pairwise_append.1 hs
  refine ⟨by omega, by omega, by omega, hok, L1 ++ x :: L2, hlen, hr, List.pairwise_append.2 ⟨hs'.1, List.pairwise_cons.2 ⟨hx, hs'.2.1⟩, fun p hp q hq => ?_⟩, ?_⟩
  · rcases List.mem_cons.1 hq with rfl | hq
    · exact hbelow p hp
    · exact hs'.2.2 p hp q hq
  · rw [show (i + 1).toNat = i.toNat + 1 by omega]
    exact came_step hc hk hw
def upHp (a : UB) (B0 B1 B2 : Nat → Int) (m : Nat) : List (Nat × Chunk Rep) := [(0, .row [.tsl 2 a.len] tRC), (1, .rep (.vec [.int .i64 B0, .int .i64 B1, .int .i64 B2] m 51)), (2, .rep (.vec (oneCols a.A0 a.A1 a.A2 a.W) a.len tOne))]
def upT (a : UB) (l : List SV) (s : Sym Rep) : Prop := ∃ (B0 B1 B2 : Nat → Int) (m : Nat), l = [.tsl 1 m] ∧ s.hp = upHp a B0 B1 B2 m ∧ ∃ L, L.length = m ∧ RowsOf B0 B1 B2 L ∧ L.Pairwise ltPl ∧ Came a a.len L
abbrev upQ (a : UB) : Ex → Sym Rep → Prop := Ends Tryz.prog Tryz.f56 (upT a)
def upI (a : UB) (r : Nat) (s : Sym Rep) : Prop := ∃ (B0 B1 B2 : Nat → Int) (m : Nat) (i : Int), s = upS a B0 B1 B2 m i ∧ UPP a B0 B1 B2 m i ∧ r = a.len - i.toNat
def upJ (a : UB) (i : Int) (r : Nat) (s : Sym Rep) : Prop := ∃ (B0 B1 B2 : Nat → Int) (m : Nat) (k : Int), s = upS2 a B0 B1 B2 m i k ∧ UPQ a B0 B1 B2 m i k ∧ r = k.toNat
abbrev upR (a : UB) (k : Nat) (x : Ex) (s : Sym Rep) : Prop := match x with
  | .nor => ∃ k', k' < k ∧ upI a k' s
  | x => Tri repAt Tryz.prog upZ 1 (.out x) upL.2 s (upQ a)
abbrev upR2 (a : UB) (i : Int) (n k : Nat) (x : Ex) (s : Sym Rep) : Prop := match x with
  | .nor => ∃ k', k' < k ∧ upJ a i k' s
  | x => Tri repAt Tryz.prog upZ 1 (.out x) upM.2 s (upR a n)
theorem up_next (a : UB) (B0 B1 B2 : Nat → Int) (m : Nat) (i : Int) {r : Nat} (hP : UPP a B0 B1 B2 m i) (hk : a.len - i.toNat < r) : Tri repAt Tryz.prog upZ 1 (.out .nor) [] (upS a B0 B1 B2 m i) (upR a r) := Tri.fin ⟨_, hk, B0, B1, B2, m, i, rfl, hP, rfl⟩
theorem up_next2 (a : UB) (B0 B1 B2 : Nat → Int) (m : Nat) (i k : Int) {n r : Nat} (hP : UPQ a B0 B1 B2 m i k) (hk : k.toNat < r) : Tri repAt Tryz.prog upZ 1 (.out .nor) [] (upS2 a B0 B1 B2 m i k) (upR2 a i n r) := Tri.fin ⟨_, hk, B0, B1, B2, m, k, rfl, hP, rfl⟩
theorem upi_less (hP : UPP a B0 B1 B2 m i) (h0 : decide (i < (a.len : Int)) = true) {r : Nat} (hr : r = a.len - i.toNat) : a.len - (IntKind.i64.wrap (i + 1)).toNat < r := by
  obtain ⟨i0, i1, hm, hok, _⟩ := hP
  have hlt := of_decide_eq_true h0
  have := hok.1
  rw [wrapI (by omega) (by omega)]
  omega
theorem upq_less (hP : UPQ a B0 B1 B2 m i k) {r : Nat} (hr : r = a.len - i.toNat) : a.len - (IntKind.i64.wrap (i + 1)).toNat < r := by
  obtain ⟨i0, i1, hm, hok, _⟩ := hP
  have := hok.1
  rw [wrapI (by omega) (by omega)]
  omega
theorem upk_less (hP : UPQ a B0 B1 B2 m i k) (h0 : decide (k > 0) = true) {r : Nat} (hr : r = k.toNat) : (IntKind.i64.wrap (k - 1)).toNat < r := by
  obtain ⟨i0, i1, hm, hok, k0, k1, _⟩ := hP
  have hlt := of_decide_eq_true h0
  have := hok.1
  rw [wrapI (by omega) (by omega)]
  omega
end Go.Proofs.YtpaiejeipghehaaGreat
end
section
/- The document's Places, run from point to point. No condition. -/
namespace Go.Proofs.YtpaiejeipghehaaGreat
set_option linter.unusedVariables false
set_option linter.unusedSimpArgs false
set_option maxRecDepth 100000
set_option maxHeartbeats 8000000

theorem up_done {a : UB} {B0 B1 B2 : Nat → Int} {m : Nat} {i : Int} (hP : UPP a B0 B1 B2 m i) (hi : i = (a.len : Int)) : upT a [.tsl 1 m] ⟨[(2, .tsl 1 m)], upHp a B0 B1 B2 m, 3⟩ := by
  obtain ⟨i0, i1, hm, hok, L, hl, hr, hs, hc⟩ := hP
  subst hi
  exact ⟨B0, B1, B2, m, rfl, rfl, L, hl, hr, hs, by simpa using hc⟩
theorem up_exit (a : UB) (B0 B1 B2 : Nat → Int) (m : Nat) (i : Int) (hP : UPP a B0 B1 B2 m i) (hi : i = (a.len : Int))  : Tri repAt Tryz.prog upZ 1 (.out (.out 0)) upL.2 (upS a B0 B1 B2 m i) (upQ a) := by
  exact Tri.pathP mixed libP_ok (n := 10000) (k := 10000) (j := 0) (cfg := upCfg) (o := []) (g' := .out .ret) (fs' := []) (s' := ⟨[(2, SV.tsl 1 m)], [(0, Chunk.row [SV.tsl 2 a.len] 29), (1, Chunk.rep (Rep.vec [Col.int IntKind.i64 B0, Col.int IntKind.i64 B1, Col.int IntKind.i64 B2] m 51)), (2, Chunk.rep (Rep.vec [Col.int IntKind.i64 a.A0, Col.int IntKind.i64 a.A1, Col.int IntKind.i64 a.A2, Col.int IntKind.u64 a.W] a.len 147))], 3⟩) (asks := []) rfl (by kernel_rfl) trivial (Tri.fin (Ends.of (t := 2) (v := .tsl 1 m) (by kernel_rfl) (.inl rfl) rfl (up_done hP hi)))
theorem up_exit2 (a : UB) (B0 B1 B2 : Nat → Int) (m : Nat) (i : Int) (k : Int) (hP : UPQ a B0 B1 B2 m i k) {r : Nat} (hr : r = a.len - i.toNat) (hd : k ≤ 0 ∨ decide (ltPl (B0 k.toNat, B1 k.toNat, B2 k.toNat) (B0 (IntKind.i64.wrap (k - 1)).toNat, B1 (IntKind.i64.wrap (k - 1)).toNat, B2 (IntKind.i64.wrap (k - 1)).toNat)) = false) : Tri repAt Tryz.prog upZ 1 (.out (.out 2)) upM.2 (upS2 a B0 B1 B2 m i k) (upR a r) := by
  exact Tri.pathP mixed libP_ok (n := 10000) (k := 10000) (j := 0) (cfg := upCfg) (o := []) (g' := .out .nor) (fs' := []) (s' := ⟨[(3, SV.tsl 1 m), (0, SV.ptr 0 0), (4, SV.v (Value.int IntKind.i64 (IntKind.i64.wrap (i + 1))))], [(0, Chunk.row [SV.tsl 2 a.len] 29), (1, Chunk.rep (Rep.vec [Col.int IntKind.i64 B0, Col.int IntKind.i64 B1, Col.int IntKind.i64 B2] m 51)), (2, Chunk.rep (Rep.vec [Col.int IntKind.i64 a.A0, Col.int IntKind.i64 a.A1, Col.int IntKind.i64 a.A2, Col.int IntKind.u64 a.W] a.len 147))], 3⟩) (asks := []) rfl (by kernel_rfl) trivial (up_next a B0 B1 B2 m (IntKind.i64.wrap (i + 1)) (upq_end hP hd) (upq_less hP hr))
theorem up_round2 (a : UB) (B0 B1 B2 : Nat → Int) (m : Nat) (i : Int) (k : Int) (hP : UPQ a B0 B1 B2 m i k) {n r : Nat} (hn : n = a.len - i.toNat) (hr : r = k.toNat) : Tri repAt Tryz.prog upZ 1 (.go upM.1) [] (upS2 a B0 B1 B2 m i k) (upR2 a i n r) := by
  rcases Bool.eq_false_or_eq_true (decide (k > 0)) with h0 | h0
  · have h1 : (decide (0 ≤ k ∧ k < (↑m : Int) ∧ m ≤ m)) = true := by (obtain ⟨i0, i1, hm, ⟨hl, hone⟩, k0, k1, L1, x, L2, hL⟩ := hP; first | rfl | (simp only [decide_eq_true_eq, decide_eq_false_iff_not] at *; omega) | (have hk := of_decide_eq_true h0; rw [wrapI (x := k - 1) (by omega) (by omega)]; simp only [decide_eq_true_eq]; omega) | (simp; done))
    have h2 : (decide (0 ≤ IntKind.i64.wrap (k - 1) ∧ IntKind.i64.wrap (k - 1) < (↑m : Int) ∧ m ≤ m)) = true := by (obtain ⟨i0, i1, hm, ⟨hl, hone⟩, k0, k1, L1, x, L2, hL⟩ := hP; first | rfl | (simp only [decide_eq_true_eq, decide_eq_false_iff_not] at *; omega) | (have hk := of_decide_eq_true h0; rw [wrapI (x := k - 1) (by omega) (by omega)]; simp only [decide_eq_true_eq]; omega) | (simp; done))
    rcases Bool.eq_false_or_eq_true (decide (ltPl (B0 k.toNat, B1 k.toNat, B2 k.toNat) (B0 (IntKind.i64.wrap (k - 1)).toNat, B1 (IntKind.i64.wrap (k - 1)).toNat, B2 (IntKind.i64.wrap (k - 1)).toNat))) with h3 | h3
    · exact Tri.pathP mixed libP_ok (n := 10000) (k := 10000) (j := 0) (cfg := upCfg2) (o := List.replicate 18 (some true)) (g' := .out .nor) (fs' := []) (s' := upS2 (a) (updI (updI B0 k.toNat (B0 (IntKind.i64.wrap (k - 1)).toNat)) (IntKind.i64.wrap (k - 1)).toNat (B0 k.toNat)) (updI (updI B1 k.toNat (B1 (IntKind.i64.wrap (k - 1)).toNat)) (IntKind.i64.wrap (k - 1)).toNat (B1 k.toNat)) (updI (updI B2 k.toNat (B2 (IntKind.i64.wrap (k - 1)).toNat)) (IntKind.i64.wrap (k - 1)).toNat (B2 k.toNat)) (m) (i) (IntKind.i64.wrap (k - 1))) (asks := [((decide (0 ≤ IntKind.i64.wrap (k - 1) ∧ IntKind.i64.wrap (k - 1) < (↑m : Int) ∧ m ≤ m)), true), ((decide (0 ≤ k ∧ k < (↑m : Int) ∧ m ≤ m)), true), ((decide (0 ≤ IntKind.i64.wrap (k - 1) ∧ IntKind.i64.wrap (k - 1) < (↑m : Int) ∧ m ≤ m)), true), ((decide (0 ≤ k ∧ k < (↑m : Int) ∧ m ≤ m)), true), ((decide (ltPl (B0 k.toNat, B1 k.toNat, B2 k.toNat) (B0 (IntKind.i64.wrap (k - 1)).toNat, B1 (IntKind.i64.wrap (k - 1)).toNat, B2 (IntKind.i64.wrap (k - 1)).toNat))), true), ((decide (k > 0)), true), ((decide (k > 0)), true), ((decide (k > 0)), true), ((decide (0 ≤ IntKind.i64.wrap (k - 1) ∧ IntKind.i64.wrap (k - 1) < (↑m : Int) ∧ m ≤ m)), true), ((decide (k > 0)), true), ((decide (k > 0)), true), ((decide (k > 0)), true), ((decide (k > 0)), true), ((decide (k > 0)), true), ((decide (0 ≤ k ∧ k < (↑m : Int) ∧ m ≤ m)), true), ((decide (k > 0)), true), ((decide (k > 0)), true), ((decide (k > 0)), true)]) rfl (by kernel_rfl) ⟨h2, h1, h2, h1, h3, h0, h0, h0, h2, h0, h0, h0, h0, h0, h1, h0, h0, h0, trivial⟩ (up_next2 (a) (updI (updI B0 k.toNat (B0 (IntKind.i64.wrap (k - 1)).toNat)) (IntKind.i64.wrap (k - 1)).toNat (B0 k.toNat)) (updI (updI B1 k.toNat (B1 (IntKind.i64.wrap (k - 1)).toNat)) (IntKind.i64.wrap (k - 1)).toNat (B1 k.toNat)) (updI (updI B2 k.toNat (B2 (IntKind.i64.wrap (k - 1)).toNat)) (IntKind.i64.wrap (k - 1)).toNat (B2 k.toNat)) (m) (i) (IntKind.i64.wrap (k - 1)) (upq_step hP h0 h3) (upk_less hP h0 hr))
    · exact Tri.pathP mixed libP_ok (n := 10000) (k := 10000) (j := 0) (cfg := upCfg2) (o := List.replicate 13 (some true) ++ [some false]) (g' := .out (.out 2)) (fs' := []) (s' := upS2 (a) (B0) (B1) (B2) (m) (i) (k)) (asks := [((decide (ltPl (B0 k.toNat, B1 k.toNat, B2 k.toNat) (B0 (IntKind.i64.wrap (k - 1)).toNat, B1 (IntKind.i64.wrap (k - 1)).toNat, B2 (IntKind.i64.wrap (k - 1)).toNat))), false), ((decide (k > 0)), true), ((decide (k > 0)), true), ((decide (k > 0)), true), ((decide (0 ≤ IntKind.i64.wrap (k - 1) ∧ IntKind.i64.wrap (k - 1) < (↑m : Int) ∧ m ≤ m)), true), ((decide (k > 0)), true), ((decide (k > 0)), true), ((decide (k > 0)), true), ((decide (k > 0)), true), ((decide (k > 0)), true), ((decide (0 ≤ k ∧ k < (↑m : Int) ∧ m ≤ m)), true), ((decide (k > 0)), true), ((decide (k > 0)), true), ((decide (k > 0)), true)]) rfl (by kernel_rfl) ⟨h3, h0, h0, h0, h2, h0, h0, h0, h0, h0, h1, h0, h0, h0, trivial⟩ (Tri.fin (up_exit2 a B0 B1 B2 m i k hP hn (by first | exact .inr h3 | exact .inl (by simpa using h0))))
  · exact Tri.pathP mixed libP_ok (n := 10000) (k := 10000) (j := 0) (cfg := upCfg2) (o := List.replicate 11 (some false)) (g' := .out (.out 2)) (fs' := []) (s' := upS2 (a) (B0) (B1) (B2) (m) (i) (k)) (asks := [((decide (k > 0)), false), ((decide (k > 0)), false), ((decide (k > 0)), false), ((decide (k > 0)), false), ((decide (k > 0)), false), ((decide (k > 0)), false), ((decide (k > 0)), false), ((decide (k > 0)), false), ((decide (k > 0)), false), ((decide (k > 0)), false), ((decide (k > 0)), false)]) rfl (by kernel_rfl) ⟨h0, h0, h0, h0, h0, h0, h0, h0, h0, h0, h0, trivial⟩ (Tri.fin (up_exit2 a B0 B1 B2 m i k hP hn (by first | exact .inr h3 | exact .inl (by simpa using h0))))
theorem up_round (a : UB) (B0 B1 B2 : Nat → Int) (m : Nat) (i : Int) (hP : UPP a B0 B1 B2 m i) {r : Nat} (hr : r = a.len - i.toNat) : Tri repAt Tryz.prog upZ 1 (.go upL.1) [] (upS a B0 B1 B2 m i) (upR a r) := by
  rcases Bool.eq_false_or_eq_true (decide (i < (↑a.len : Int))) with h0 | h0
  · have h1 : (decide (0 ≤ i ∧ i < (↑a.len : Int) ∧ a.len ≤ a.len)) = true := by (obtain ⟨i0, i1, hm, ⟨hl, hone⟩, L, hL⟩ := hP; first | rfl | (simp only [decide_eq_true_eq, decide_eq_false_iff_not] at *; omega) | (simp; done) | (show decide (m ≤ m ∧ _ * _ ≤ 140737488351232) = true; refine Eq.trans (b := decide (m ≤ m ∧ (m + 1) * 24 ≤ 140737488351232)) (by kernel_rfl) ?_; simp only [decide_eq_true_eq]; omega))
    rcases Bool.eq_false_or_eq_true (a.W i.toNat == 0) with h2 | h2
    · exact Tri.pathP mixed libP_ok (n := 10000) (k := 10000) (j := 0) (cfg := upCfg2) (o := List.replicate 3 (some true)) (g' := .out .nor) (fs' := []) (s' := ⟨[(3, SV.tsl 1 m), (0, SV.ptr 0 0), (4, SV.v (Value.int IntKind.i64 (IntKind.i64.wrap (i + 1))))], [(0, Chunk.row [SV.tsl 2 a.len] 29), (1, Chunk.rep (Rep.vec [Col.int IntKind.i64 B0, Col.int IntKind.i64 B1, Col.int IntKind.i64 B2] m 51)), (2, Chunk.rep (Rep.vec [Col.int IntKind.i64 a.A0, Col.int IntKind.i64 a.A1, Col.int IntKind.i64 a.A2, Col.int IntKind.u64 a.W] a.len 147))], 3⟩) (asks := [((a.W i.toNat == 0), true), ((decide (0 ≤ i ∧ i < (↑a.len : Int) ∧ a.len ≤ a.len)), true), ((decide (i < (↑a.len : Int))), true)]) rfl (by kernel_rfl) ⟨h2, h1, h0, trivial⟩ (up_next a B0 B1 B2 m (IntKind.i64.wrap (i + 1)) (upp_skip hP h0 h2) (upi_less hP h0 hr))
    · have h3 : (decide (m ≤ m ∧ (m + 1) * 24 ≤ 140737488351232)) = true := by (obtain ⟨i0, i1, hm, ⟨hl, hone⟩, L, hL⟩ := hP; first | rfl | (simp only [decide_eq_true_eq, decide_eq_false_iff_not] at *; omega) | (simp; done) | (show decide (m ≤ m ∧ _ * _ ≤ 140737488351232) = true; refine Eq.trans (b := decide (m ≤ m ∧ (m + 1) * 24 ≤ 140737488351232)) (by kernel_rfl) ?_; simp only [decide_eq_true_eq]; omega))
      exact Tri.pathP mixed libP_ok (n := 10000) (k := 10000) (j := 0) (cfg := upCfg2) (o := [some true, some true] ++ [some false] ++ [some true, some true]) (g' := .go (.loop upM.1)) (fs' := upM.2) (s' := upS2 (a) (joinI B0 m fun x => a.A0 i.toNat) (joinI B1 m fun x => a.A1 i.toNat) (joinI B2 m fun x => a.A2 i.toNat) (m + 1) (i) (IntKind.i64.wrap ((↑(m + 1) : Int) - 1))) (asks := [((decide (m ≤ m ∧ (m + 1) * 24 ≤ 140737488351232)), true), ((decide (0 ≤ i ∧ i < (↑a.len : Int) ∧ a.len ≤ a.len)), true), ((a.W i.toNat == 0), false), ((decide (0 ≤ i ∧ i < (↑a.len : Int) ∧ a.len ≤ a.len)), true), ((decide (i < (↑a.len : Int))), true)]) rfl (by kernel_rfl) ⟨h3, h1, h2, h1, h0, trivial⟩ (Tri.loop (I := upJ a i) (fun k s ⟨B0, B1, B2, m, k', hs, hP, hk⟩ => by subst hs; exact up_round2 a B0 B1 B2 m i k' hP hr hk) ⟨_, _, _, _, _, rfl, upp_push hP h0 h2, rfl⟩)
  · exact Tri.pathP mixed libP_ok (n := 10000) (k := 10000) (j := 0) (cfg := upCfg2) (o := [some false]) (g' := .out (.out 0)) (fs' := []) (s' := ⟨[(3, SV.tsl 1 m), (0, SV.ptr 0 0), (4, SV.v (Value.int IntKind.i64 i))], [(0, Chunk.row [SV.tsl 2 a.len] 29), (1, Chunk.rep (Rep.vec [Col.int IntKind.i64 B0, Col.int IntKind.i64 B1, Col.int IntKind.i64 B2] m 51)), (2, Chunk.rep (Rep.vec [Col.int IntKind.i64 a.A0, Col.int IntKind.i64 a.A1, Col.int IntKind.i64 a.A2, Col.int IntKind.u64 a.W] a.len 147))], 3⟩) (asks := [((decide (i < (↑a.len : Int))), false)]) rfl (by kernel_rfl) ⟨h0, trivial⟩ (Tri.fin (up_exit a B0 B1 B2 m i hP (by obtain ⟨i0, i1, _⟩ := hP; have := of_decide_eq_false h0; omega)))
theorem up_start (a : UB) (ha : a.ok)  : Tri repAt Tryz.prog upZ 1 (.go (bodyOf Tryz.prog upF)) [] (⟨argsE [.ptr 0 0], cellsHp a.A0 a.A1 a.A2 a.W a.len, 2⟩) (upQ a) := by
  exact Tri.pathP mixed libP_ok (n := 10000) (k := 10000) (j := 0) (cfg := upCfg0) (o := []) (g' := .go (.loop upL.1)) (fs' := upL.2) (s' := upS (a) (fun i => [].getD i 0) (fun i => [].getD i 0) (fun i => [].getD i 0) (0) (Int.ofNat 0)) (asks := []) rfl (by kernel_rfl) trivial (Tri.loop (I := upI a) (fun k s ⟨B0, B1, B2, m, i, hs, hP, hk⟩ => by subst hs; exact up_round a B0 B1 B2 m i hP hk) ⟨_, _, _, _, _, rfl, ⟨by decide, by simp, by decide, ha, [], rfl, (fun j hj => absurd hj (Nat.not_lt_zero _)), List.Pairwise.nil, fun p => ⟨(fun h => by cases h), fun ⟨j, hj, _⟩ => absurd hj (Nat.not_lt_zero _)⟩⟩, rfl⟩)
end Go.Proofs.YtpaiejeipghehaaGreat
end
section
/- The document's Places and Copy as known calls. -/
namespace Go.Proofs.YtpaiejeipghehaaGreat
open Go.RowKit
section
variable {R : Type} {A : RepAt R} {P : Program} {B : Nat} {F : Nat → Prop} {st : St R} {ρ : Names} {own : Nat → List Nat} {w w' : World}
/-- Another content, and a new piece. -/
theorem Tr.setNew {n : Nat} {c c2 d : Chunk R} {e e2 : Spot} {own0 own2 : List Nat} (s : Sit A P B F st ((st.set n c).new c2) ρ own w) (hd : hget n st.hp = some d) (he : ρ n = some e) (hm : ModP (fun b => b ∈ own n) w w')
    (hc : CAt A P (ρ.put st.nx e2) B e own0 c w') (hc2 : CAt A P (ρ.put st.nx e2) B e2 own2 c2 w') (ho : ∀ b ∈ own0, b ∈ own n ∨ (w.heap.size ≤ b ∧ b < w'.heap.size)) (ho2 : ∀ b ∈ own2, b ∈ own n ∨ (w.heap.size ≤ b ∧ b < w'.heap.size)) (hdis : ∀ b ∈ own2, b ∉ own0) :
    Tr A P B F st ((st.set n c).new c2) ρ own w (ρ.put st.nx e2) (ownPut (ownPut own n own0) st.nx own2) w' := by
  have hnlt : n < st.nx := s.wf.lt hd
  have hnn : ∀ m, newN st ((st.set n c).new c2) m ↔ m = st.nx := fun m => by unfold newN St.new St.set; simp only; omega
  have hwr : n ∈ ((st.set n c).new c2).wr := mem_ins.2 (.inl rfl)
  have hF : F n := s.log n (mem_ins.2 (.inl rfl))
  have hle : ρ.le (ρ.put st.nx e2) := Names.put_le (s.fresh st.nx ((hnn _).2 rfl))
  have hlow := fun b hb => s.li.low n d hF hd b hb
  have o1 : ownPut (ownPut own n own0) st.nx own2 n = own0 := by rw [ownPut_other (Nat.ne_of_lt hnlt), ownPut_same]
  have o2 : ownPut (ownPut own n own0) st.nx own2 st.nx = own2 := ownPut_same
  have o3 : ∀ m, m ≠ n → m ≠ st.nx → ownPut (ownPut own n own0) st.nx own2 m = own m := fun m h1 h2 => by rw [ownPut_other h2, ownPut_other h1]
  have hget' : ∀ m x, hget m ((st.set n c).new c2).hp = some x → (m = st.nx ∧ x = c2) ∨ (m = n ∧ x = c) ∨ (m ≠ n ∧ m ≠ st.nx ∧ hget m st.hp = some x) := fun m x hx => by
    simp only [St.new, St.set] at hx
    rw [hget_cons] at hx
    split at hx
    · next h => injection hx with hx; exact .inl ⟨h, hx.symm⟩
    · next h =>
      rw [hget_set] at hx
      split at hx
      · next h2 => rw [hd] at hx; injection hx with hx; exact .inr (.inl ⟨h2, hx.symm⟩)
      · next h2 => exact .inr (.inr ⟨h2, h, hx⟩)
  refine ⟨hle, fun m hmm => Names.put_other fun h => hmm ((hnn m).2 h), fun m hmm hmw => o3 m (fun h => hmw (h ▸ hwr)) fun h => hmm ((hnn m).2 h), fun m hmm b hb => ?_, ?_, hm.mono (fun b _ h => ⟨n, hwr, fun hx => absurd ((hnn n).1 hx) (Nat.ne_of_lt hnlt), h⟩)⟩
  · by_cases h2 : m = st.nx
    · subst h2
      rw [o2] at hb
      rcases ho2 b hb with h | h
      · exact .inr ⟨n, hwr, fun hx => absurd ((hnn n).1 hx) (Nat.ne_of_lt hnlt), h⟩
      · exact .inl h.1
    · by_cases h1 : m = n
      · subst h1
        rw [o1] at hb
        rcases ho b hb with h | h
        · exact .inr ⟨m, hwr, fun hx => h2 ((hnn m).1 hx), h⟩
        · exact .inl h.1
      · rw [o3 m h1 h2] at hb
        exact .inr ⟨m, hmm.resolve_left (fun hx => h2 ((hnn m).1 hx)), fun hx => h2 ((hnn m).1 hx), hb⟩
  · refine s.li.step (X := fun m => m = n ∨ m = st.nx) hm hle (fun b hb => ⟨n, d, .inl rfl, hF, hd, hb⟩) (fun m x hx hX hx' => ?_) (fun m x _ hX hx => ?_) (fun m x _ hX hx b hb => ?_) (fun m k x y _ _ h1 h2 hne hx hy b hb hb' => ?_)
    · rw [not_or] at hX
      rcases hget' m x hx' with ⟨h, _⟩ | ⟨h, _⟩ | ⟨_, _, h⟩
      · exact absurd h hX.2
      · exact absurd h hX.1
      · exact ⟨hx.resolve_right (fun hq => hX.2 ((hnn m).1 hq)), h, o3 m hX.1 hX.2⟩
    · rcases hget' m x hx with ⟨rfl, rfl⟩ | ⟨rfl, rfl⟩ | ⟨h1, h2, _⟩
      · exact ⟨e2, Names.put_same, by rw [o2]; exact hc2⟩
      · exact ⟨e, by rw [Names.put_other (Nat.ne_of_lt hnlt)]; exact he, by rw [o1]; exact hc⟩
      · exact absurd hX (by simp [h1, h2])
    · rcases hX with rfl | rfl
      · rw [o1] at hb
        rcases ho b hb with h | h
        · exact ⟨Nat.lt_of_lt_of_le (hlow b h).2 hm.size, (hlow b h).1, .inr ⟨m, d, .inl rfl, hF, hd, h⟩⟩
        · exact ⟨h.2, Nat.le_trans s.base h.1, .inl h.1⟩
      · rw [o2] at hb
        rcases ho2 b hb with h | h
        · exact ⟨Nat.lt_of_lt_of_le (hlow b h).2 hm.size, (hlow b h).1, .inr ⟨n, d, .inl rfl, hF, hd, h⟩⟩
        · exact ⟨h.2, Nat.le_trans s.base h.1, .inl h.1⟩
    · rcases h1 with rfl | rfl <;> rcases h2 with rfl | rfl
      · exact hne rfl
      · rw [o1] at hb; rw [o2] at hb'; exact hdis b hb' hb
      · rw [o2] at hb; rw [o1] at hb'; exact hdis b hb hb'
      · exact hne rfl
end
theorem came_places {a : UB} {f : Pl → Int} {L : List Pl} (h : URel a.A0 a.A1 a.A2 a.W a.len f) (hs : L.Pairwise ltPl) (hc : Came a a.len L) : IsPlaces f L := by
  refine ⟨hs, fun p => ?_⟩
  rw [hc p]
  constructor
  · rintro ⟨j, h1, rfl, h3⟩
    exact ⟨h.wf j h1, by rw [show f (a.key j) = a.W j from h.val j h1]; exact h3⟩
  · rintro ⟨h1, h2⟩
    by_cases hx : ∃ j, j < a.len ∧ a.key j = p
    · obtain ⟨j, h3, rfl⟩ := hx
      exact ⟨j, h3, rfl, by rw [← show f (a.key j) = a.W j from h.val j h3]; exact h2⟩
    · exact absurd (h.off p fun k hk e => hx ⟨k, hk, e⟩) h2
theorem vec_rows {B0 B1 B2 : Nat → Int} {L : List Pl} {m : Nat} {sp : Spot} {own : List Nat} {w : World} (h : VecAt (colsF [.int .i64 B0, .int .i64 B1, .int .i64 B2]) m 51 3 sp own w) (hm : L.length = m) (hr : RowsOf B0 B1 B2 L) : VecAt (plRow L) L.length 51 3 sp own w := by
  subst hm
  have e : ∀ i, i < L.length → colsF [.int .i64 B0, .int .i64 B1, .int .i64 B2] i = plRow L i := fun i hi => by
    have := hr i hi
    simp only [Prod.ext_iff] at this
    simp only [colsF, Col.at, plRow, kvs, this.1, this.2.1, this.2.2]
  obtain ⟨h1, h2, h3, h4, h5⟩ := h
  refine ⟨h1, h2, h3, fun i hi => by rw [← e i hi]; exact h4 i hi, ?_⟩
  cases ha : sp.ad with
  | none => rw [ha] at h5; exact h5
  | some g =>
    rw [ha] at h5
    obtain ⟨g1, g2, cs, g3, g4, g5⟩ := h5
    exact ⟨g1, g2, cs, g3, g4, fun i hi j hj => by rw [← e i hi]; exact g5 i hi j hj⟩
set_option maxRecDepth 100000 in
set_option maxHeartbeats 4000000 in
theorem ucells_places {f : Pl → Int} {n : Nat} {e : Spot} {own : List Nat} {w : World} (h : UAt f n e own w) (hn : n ≤ 1000000) :
    Calls Tryz.prog 56 #[.pointer (some ⟨e.b, e.off, none⟩)] w fun x w' => ∃ (sp : Spot) (own' own2 : List Nat), x = .returned (.slice sp.ad (placesOf f).length sp.cap) ∧ VecAt (plRow (placesOf f)) (placesOf f).length 51 3 sp own2 w' ∧
      UAt f n e own' w' ∧ ModP (fun b => b ∈ own) w w' ∧ (∀ b ∈ own', b ∈ own ∨ (w.heap.size ≤ b ∧ b < w'.heap.size)) ∧ (∀ b ∈ own2, b ∈ own ∨ (w.heap.size ≤ b ∧ b < w'.heap.size)) ∧ ∀ b ∈ own2, b ∉ own' := by
  obtain ⟨A0, A1, A2, W, len, sp, own1, rfl, h1, h2, h3, h4, h5⟩ := h
  have hst := cells_stand h1 h2 h3 (argsE [.ptr 0 0])
  refine (Tri.calls (pin := 1) Tryz.func56 (c := bodyOf Tryz.prog upF) (by kernel_rfl) (args := [.ptr 0 0]) (Nat.le_of_ble_eq_true (by kernel_rfl)) (up_start ⟨A0, A1, A2, W, len⟩ ⟨Nat.le_trans h5 hn, fun i j hi hj he => h4.one i j hi hj he⟩) hst (vals := [.pointer (some ⟨e.b, e.off, none⟩)]) rfl).mono ?_
  rintro x w' ⟨y, l, s', ρ', own', rfl, hy, ⟨B0, B1, B2, m, rfl, hhp, L, hL, hr, hs1, hc1⟩, hs, hw, hpp⟩
  have hip := came_places (a := ⟨A0, A1, A2, W, len⟩) h4 hs1 hc1
  rw [placesOf_eq hip]
  obtain ⟨e0, g0, o0, cs, vs, q1, q2, q3, q4, q5⟩ := hs.li.at_ 0 (.row [.tsl 2 len] tRC) trivial (by rw [hhp]; rfl)
  obtain ⟨sp1, g1, v1⟩ := hs.li.at_ 1 (.rep (.vec [.int .i64 B0, .int .i64 B1, .int .i64 B2] m 51)) trivial (by rw [hhp]; rfl)
  obtain ⟨sp2, g2, v2⟩ := hs.li.at_ 2 (.rep (.vec (oneCols A0 A1 A2 W) len tOne)) trivial (by rw [hhp]; rfl)
  have he : some e = some e0 := (hpp 0 (by decide)).symm.trans g0
  injection he with he
  subst he
  simp only [denL, den, g2, Option.map_some, Option.some.injEq] at q2
  subst q2
  rw [cells1, Nat.mul_one] at q4 q5
  simp only [oneOf, den, g1, Option.map_some, Option.some.injEq] at hy
  subst hy
  have hown : ∀ m d, hget m (cellsHp A0 A1 A2 W len) = some d → ∀ b ∈ cellsO e.b own1 m, b ∈ e.b :: own1 := fun m d hd b hb => by
    rcases cellsHp_get hd with ⟨rfl, _⟩ | ⟨rfl, _⟩
    · simp only [cellsO, List.mem_singleton] at hb; simp [hb]
    · exact List.mem_cons_of_mem _ hb
  have came : ∀ k c, hget k s'.hp = some c → ∀ b ∈ own' k, b ∈ e.b :: own1 ∨ (w.heap.size ≤ b ∧ b < w'.heap.size) := fun k c hk b hb => by
    rcases hw.pool k c hk b hb with h | ⟨m, d, hd, hm⟩
    · exact .inr ⟨h, (hs.li.low k c trivial hk b hb).2⟩
    · exact .inl (hown m d hd b hm)
  have k0 : hget 0 s'.hp = some (.row [.tsl 2 len] tRC) := by rw [hhp]; rfl
  have k1 : hget 1 s'.hp = some (.rep (.vec [.int .i64 B0, .int .i64 B1, .int .i64 B2] m 51)) := by rw [hhp]; rfl
  have k2 : hget 2 s'.hp = some (.rep (.vec (oneCols A0 A1 A2 W) len tOne)) := by rw [hhp]; rfl
  refine ⟨sp1, e.b :: own' 2, own' 1, by rw [hL], vec_rows v1 hL hr, ⟨A0, A1, A2, W, len, sp2, own' 2, rfl, fun hx => ?_, ⟨cs, q1, q3 0 (by simp), q4, q5⟩, v2, h4, h5⟩, hw.mod.mono fun b _ ⟨m, d, hd, hb⟩ => hown m d hd b hb, fun b hb => ?_, fun b hb => came 1 _ k1 b hb, fun b hb hb' => ?_⟩
  · exact hs.li.dis 0 2 _ _ trivial trivial (by decide) k0 k2 e.b (by rw [o0]; simp) hx
  · rcases List.mem_cons.1 hb with rfl | hb
    · exact .inl (by simp)
    · exact came 2 _ k2 b hb
  · rcases List.mem_cons.1 hb' with rfl | hb'
    · exact hs.li.dis 0 1 _ _ trivial trivial (by decide) k0 k1 e.b (by rw [o0]; simp) hb
    · exact hs.li.dis 1 2 _ _ trivial trivial (by decide) k1 k2 b hb hb'
noncomputable def placesUX : List SV → M Rep SV
  | [.ptr n 0] => (getC n).bind fun c => (M.opt 370 (asU c)).bind fun | (l, g, k) => (need 371 (Nat.ble k 1000000)).bind fun _ => (setC n (.rep (.ucells l g k))).bind fun _ =>
    (newC (.rep (.vec (colsPl (placesOf (getL l g))) (placesOf (getL l g)).length 51))).bind fun k2 => .ret (.tsl k2 (placesOf (getL l g)).length)
  | _ => .fail 372
theorem placesU_s {args : List SV} {st st' : St Rep} {s : SV} (h : placesUX args st = .ok s st') : CallS repAt Tryz.prog 56 args st st' s := by
  unfold placesUX at h
  split at h
  · next n =>
    obtain ⟨c, st1, h3, h4⟩ := bind_ok.1 h
    obtain ⟨hc, rfl⟩ := getC_ok.1 h3
    obtain ⟨⟨l, g, k⟩, _, h5, h6⟩ := bind_ok.1 h4
    obtain ⟨hu, rfl⟩ := opt_ok.1 h5
    obtain ⟨_, st2, h9, h10⟩ := bind_ok.1 h6
    obtain ⟨q2, hq⟩ := need_ok h9
    obtain ⟨_, st3, h11, h12⟩ := bind_ok.1 h10
    obtain ⟨_, rfl⟩ := setC_ok.1 h11
    obtain ⟨k2, st4, h13, h14⟩ := bind_ok.1 h12
    obtain ⟨rfl, rfl⟩ := newC_ok.1 h13
    obtain ⟨rfl, rfl⟩ := ret_ok.1 h14
    have q := Quiet.get.trans q2
    have hc2 : hget n st2.hp = some c := by rw [q.hp]; exact hc
    refine ⟨q.fn.trans ((Fn.set st2 n (.rep (.ucells l g k)) _ hc2).trans (Fn.new _ _)), fun B F ρ own w vals si hv => ?_⟩
    have s1 := si.of_quiet q
    obtain ⟨e, he, hat⟩ := s1.li.at_ n _ (s1.log n (mem_ins.2 (.inl rfl))) hc2
    simp only [denL, den, he, Option.map_some, Option.some.injEq, Nat.add_zero] at hv
    subst hv
    refine (ucells_places (asU_at hu hat) (Nat.le_of_ble_eq_true (hq si.ask))).mono ?_
    rintro x w' ⟨sp, own', own2, rfl, hvec, hu', hm, ho, ho2, hd⟩
    have ht := Tr.setNew (A := repAt) (P := Tryz.prog) (B := B) (F := F) (own := own) (e2 := sp) (c := .rep (.ucells l g k)) (c2 := .rep (.vec (colsPl (placesOf (getL l g))) (placesOf (getL l g)).length 51)) s1 hc2 he hm (show Rep.At B (.ucells l g k) e own' w' from hu') (show Rep.At B (.vec (colsPl (placesOf (getL l g))) (placesOf (getL l g)).length 51) sp own2 w' from hvec) ho ho2 hd
    exact ⟨_, _, _, rfl, by simp [den, Names.put_same, St.set], Tr.of_quiet q ht⟩
  · exact (fail_ok.1 h).elim
/-- The document's calls on Cells. -/
noncomputable def primUP (f : FuncId) (args : List SV) : Option (M Rep SV) := match Nat.beq f 56 with
  | true => some (placesUX args)
  | false => primU f args
theorem primUP_ok : ∀ f args m, primUP f args = some m → ∀ st s st', m st = .ok s st' → CallS repAt Tryz.prog f args st st' s := by
  intro f args m hm st s st' h
  unfold primUP at hm
  split at hm
  · next hb =>
    obtain rfl := Nat.eq_of_beq_eq_true hb
    cases hm
    exact placesU_s h
  · exact primU_ok f args m hm st s st' h
end Go.Proofs.YtpaiejeipghehaaGreat
end
section
/- What memory tells of a Cells: its places are finitely many. No condition. -/
namespace Go.Proofs.YtpaiejeipghehaaGreat
open Go.RowKit
theorem Tri.know {A : RepAt Rep} {P : Program} {sz pin : Nat} {g : Goer} {fs : List Fr} {s : Sym Rep} {Q : Ex → Sym Rep → Prop} {φ : Prop} (h : ∀ B ρ own w, Stand A P B s ρ own w → φ) (k : φ → Tri A P sz pin g fs s Q) : Tri A P sz pin g fs s Q :=
  fun B ρ own w a hs he hz K hk => k (h B ρ own w hs) B ρ own w a hs he hz K hk
theorem nodup_map {α β : Type} {f : α → β} : ∀ {l : List α}, l.Nodup → (∀ x ∈ l, ∀ y ∈ l, f x = f y → x = y) → (l.map f).Nodup
  | [], _, _ => List.nodup_nil
  | a :: l, h, hf => by
    rw [List.nodup_cons] at h
    rw [List.map_cons, List.nodup_cons]
    refine ⟨fun hm => ?_, nodup_map h.2 fun x hx y hy => hf x (List.mem_cons_of_mem _ hx) y (List.mem_cons_of_mem _ hy)⟩
    obtain ⟨y, hy, he⟩ := List.mem_map.1 hm
    have := hf y (List.mem_cons_of_mem _ hy) a (by simp) he
    subst this
    exact h.1 hy
theorem urel_fin {A0 A1 A2 W : Nat → Int} {len : Nat} {f : Pl → Int} (h : URel A0 A1 A2 W len f) : IsPlaces f (placesOf f) ∧ (placesOf f).length ≤ len := by
  have hnd : (((List.range len).filter fun k => decide (W k ≠ 0)).map fun k => ((A0 k, A1 k, A2 k) : Pl)).Nodup := nodup_map (List.Pairwise.filter _ List.nodup_range) fun x hx y hy e => by
    have hx := List.mem_range.1 (List.mem_filter.1 hx).1
    have hy := List.mem_range.1 (List.mem_filter.1 hy).1
    exact h.one x y hx hy e
  have hip := isPlaces_sorted (f := f) hnd fun p => by
    rw [List.mem_map]
    constructor
    · rintro ⟨k, hk, rfl⟩
      obtain ⟨h1, h2⟩ := List.mem_filter.1 hk
      have h1 := List.mem_range.1 h1
      refine ⟨h.wf k h1, ?_⟩
      rw [h.val k h1]
      simpa using h2
    · rintro ⟨_, h2⟩
      by_cases hx : ∃ k, k < len ∧ ((A0 k, A1 k, A2 k) : Pl) = p
      · obtain ⟨k, h3, rfl⟩ := hx
        rw [h.val k h3] at h2
        exact ⟨k, List.mem_filter.2 ⟨List.mem_range.2 h3, by simpa using h2⟩, rfl⟩
      · exact absurd (h.off p fun k hk e => hx ⟨k, hk, e⟩) h2
  rw [placesOf_eq hip]
  refine ⟨hip, ?_⟩
  rw [List.length_mergeSort, List.length_map]
  exact Nat.le_trans (List.length_filter_le _ _) (by simp)
theorem uat_fin {f : Pl → Int} {n : Nat} {e : Spot} {own : List Nat} {w : World} (h : UAt f n e own w) : IsPlaces f (placesOf f) ∧ (placesOf f).length ≤ n := by
  obtain ⟨A0, A1, A2, W, len, sp, own1, _, _, _, _, h4, h5⟩ := h
  have := urel_fin h4
  exact ⟨this.1, Nat.le_trans this.2 h5⟩
/-- What is known where a Cells stands. -/
theorem stand_fin {P : Program} {B k n : Nat} {s : Sym Rep} {ρ : Names} {own : Nat → List Nat} {w : World} {l : List (Pl × Int)} {g : Pl → Int} (hs : Stand repAt P B s ρ own w) (hk : hget k s.hp = some (.rep (.ucells l g n))) : IsPlaces (getL l g) (placesOf (getL l g)) ∧ (placesOf (getL l g)).length ≤ n := by
  obtain ⟨e, _, hat⟩ := hs.li.at_ k _ trivial hk
  exact uat_fin hat
theorem getD_mem {L : List Pl} {k : Nat} (h : k < L.length) : L.getD k (0, 0, 0) ∈ L := by
  simp [List.getD, List.getElem?_eq_getElem h]
theorem place_wf {f : Pl → Int} {L : List Pl} (h : IsPlaces f L) {k : Nat} (hk : k < L.length) : plWfB ((L.getD k (0, 0, 0)).1, (L.getD k (0, 0, 0)).2.1, (L.getD k (0, 0, 0)).2.2) = true := plWfB_iff.2 ((h.2 _).1 (getD_mem hk)).1
end Go.Proofs.YtpaiejeipghehaaGreat
end
section
/- A number put into a field of a word, in numbers. No condition. -/
namespace Go.Proofs.YtpaiejeipghehaaGreat

/-- A field as the program puts it: what was there struck, the number laid in. -/
def putP (w x : Int) (sh k : Int) : Int := IntKind.u64.wrap ↑(BitVec.ofInt IntKind.u64.bits (IntKind.u64.wrap ↑(BitVec.ofInt IntKind.u64.bits w &&& ~~~BitVec.ofInt IntKind.u64.bits
    (IntKind.u64.wrap (Int.fdiv 18446744073709551615 (2 ^ min (IntKind.u64.wrap (IntKind.i64.wrap k)).toNat IntKind.u64.bits) * 2 ^ min (IntKind.u64.wrap sh).toNat IntKind.u64.bits))).toNat) |||
  BitVec.ofInt IntKind.u64.bits (IntKind.u64.wrap (x * 2 ^ min (IntKind.u64.wrap sh).toNat IntKind.u64.bits))).toNat
theorem strike (w m sh : Nat) (hw : w < 2 ^ sh) (hsh : sh < 64) : (BitVec.ofNat 64 w &&& ~~~BitVec.ofNat 64 (m * 2 ^ sh)).toNat = w := by
  have hw64 : w < 2 ^ 64 := Nat.lt_of_lt_of_le hw (Nat.pow_le_pow_right (by omega) (by omega))
  have e : BitVec.ofNat 64 w &&& ~~~BitVec.ofNat 64 (m * 2 ^ sh) = BitVec.ofNat 64 w := by
    apply BitVec.eq_of_getLsbD_eq
    intro i hi
    simp only [BitVec.getLsbD_and, BitVec.getLsbD_not, BitVec.getLsbD_ofNat, Nat.testBit_mul_two_pow, hi, decide_true, Bool.true_and]
    by_cases h : sh ≤ i
    · have : w.testBit i = false := Nat.testBit_lt_two_pow (Nat.lt_of_lt_of_le hw (Nat.pow_le_pow_right (by omega) h))
      simp [this]
    · simp [h]
  rw [e, BitVec.toNat_ofNat, Nat.mod_eq_of_lt hw64]
theorem lay (w x sh k : Nat) (hw : w < 2 ^ sh) (hx : x < 2 ^ k) (hk : sh + k ≤ 64) : (BitVec.ofNat 64 w ||| BitVec.ofNat 64 (x * 2 ^ sh)).toNat = w + x * 2 ^ sh := by
  have hw64 : w < 2 ^ 64 := Nat.lt_of_lt_of_le hw (Nat.pow_le_pow_right (by omega) (by omega))
  have hx64 : x * 2 ^ sh < 2 ^ 64 := by
    have h1 : x * 2 ^ sh < 2 ^ k * 2 ^ sh := Nat.mul_lt_mul_of_pos_right hx (Nat.two_pow_pos _)
    rw [← Nat.pow_add] at h1
    exact Nat.lt_of_lt_of_le h1 (Nat.pow_le_pow_right (by omega) (by omega))
  rw [BitVec.toNat_or, BitVec.toNat_ofNat, BitVec.toNat_ofNat, Nat.mod_eq_of_lt hw64, Nat.mod_eq_of_lt hx64, Nat.or_comm, Nat.mul_comm, ← Nat.two_pow_add_eq_or_of_lt hw]
  omega
theorem putP_eq {w x : Int} (sh k : Nat) (hw0 : 0 ≤ w) (hw : w < 2 ^ sh) (hx0 : 0 ≤ x) (hx : x < 2 ^ k) (hk0 : 0 < k) (hk : sh + k ≤ 64) : putP w x sh (64 - k : Nat) = w + x * 2 ^ sh := by
  obtain ⟨w, rfl⟩ := Int.eq_ofNat_of_zero_le hw0
  obtain ⟨x, rfl⟩ := Int.eq_ofNat_of_zero_le hx0
  have hw' : w < 2 ^ sh := by exact_mod_cast hw
  have hx' : x < 2 ^ k := by exact_mod_cast hx
  have hw64 : w < 2 ^ 64 := Nat.lt_of_lt_of_le hw' (Nat.pow_le_pow_right (by omega) (by omega))
  have hx64 : x * 2 ^ sh < 2 ^ 64 := by
    have h1 : x * 2 ^ sh < 2 ^ k * 2 ^ sh := Nat.mul_lt_mul_of_pos_right hx' (Nat.two_pow_pos _)
    rw [← Nat.pow_add] at h1
    exact Nat.lt_of_lt_of_le h1 (Nat.pow_le_pow_right (by omega) (by omega))
  have hm64 : (2 ^ k - 1) * 2 ^ sh < 2 ^ 64 := by
    have h1 : (2 ^ k - 1) * 2 ^ sh < 2 ^ k * 2 ^ sh := Nat.mul_lt_mul_of_pos_right (by have := Nat.two_pow_pos k; omega) (Nat.two_pow_pos _)
    rw [← Nat.pow_add] at h1
    exact Nat.lt_of_lt_of_le h1 (Nat.pow_le_pow_right (by omega) (by omega))
  unfold putP
  rw [wrapU (x := (sh : Int)) (by omega) (by omega), wrapI (x := ((64 - k : Nat) : Int)) (by omega) (by omega), wrapU (x := ((64 - k : Nat) : Int)) (by omega) (by omega)]
  simp only [Int.toNat_natCast]
  have e1 : min sh IntKind.u64.bits = sh := Nat.min_eq_left (by simp [IntKind.bits]; omega)
  have e2 : min (64 - k) IntKind.u64.bits = 64 - k := Nat.min_eq_left (by simp [IntKind.bits])
  have e4 : Int.fdiv 18446744073709551615 (2 ^ (64 - k)) = ((2 ^ k - 1 : Nat) : Int) := by
    have h1 := fdiv_nat 18446744073709551615 (2 ^ (64 - k))
    have h2 : 18446744073709551615 / 2 ^ (64 - k) = 2 ^ k - 1 := by
      have h3 : 2 ^ 64 = 2 ^ k * 2 ^ (64 - k) := by rw [← Nat.pow_add]; congr 1; omega
      have h4 : 0 < 2 ^ (64 - k) := Nat.two_pow_pos _
      have h5 : 0 < 2 ^ k := Nat.two_pow_pos _
      have h6 : 18446744073709551615 = (2 ^ k - 1) * 2 ^ (64 - k) + (2 ^ (64 - k) - 1) := by
        rw [Nat.sub_mul, Nat.one_mul, ← h3]
        have : 2 ^ (64 - k) ≤ 2 ^ 64 := Nat.pow_le_pow_right (by omega) (by omega)
        omega
      rw [h6, Nat.mul_comm, Nat.mul_add_div h4, Nat.div_eq_of_lt (by omega)]
      omega
    rw [← h2]
    simpa using h1
  rw [e1, e2, e4]
  have c1 : ((2 ^ k - 1 : Nat) : Int) * 2 ^ sh = (((2 ^ k - 1) * 2 ^ sh : Nat) : Int) := by simp
  have c2 : (x : Int) * 2 ^ sh = ((x * 2 ^ sh : Nat) : Int) := by simp
  rw [c1, c2, wrapU (x := (((2 ^ k - 1) * 2 ^ sh : Nat) : Int)) (by omega) (by omega), wrapU (x := ((x * 2 ^ sh : Nat) : Int)) (by omega) (by omega)]
  show IntKind.u64.wrap ↑(BitVec.ofInt 64 (IntKind.u64.wrap ↑(BitVec.ofInt 64 (w : Int) &&& ~~~BitVec.ofInt 64 (((2 ^ k - 1) * 2 ^ sh : Nat) : Int)).toNat) ||| BitVec.ofInt 64 ((x * 2 ^ sh : Nat) : Int)).toNat = _
  rw [ofInt_nat w, ofInt_nat ((2 ^ k - 1) * 2 ^ sh), strike w (2 ^ k - 1) sh hw' (by omega), wrapU (x := (w : Int)) (by omega) (by omega), ofInt_nat w, ofInt_nat (x * 2 ^ sh), lay w x sh k hw' hx' hk]
  have : w + x * 2 ^ sh < 2 ^ 64 := by
    have h1 : x * 2 ^ sh + 2 ^ sh ≤ 2 ^ k * 2 ^ sh := by
      rw [← Nat.succ_mul]
      exact Nat.mul_le_mul_right _ hx'
    rw [← Nat.pow_add, Nat.add_comm k sh] at h1
    have := Nat.pow_le_pow_right (n := 2) (by omega) hk
    omega
  rw [wrapU (by omega) (by omega)]
  simp
end Go.Proofs.YtpaiejeipghehaaGreat
end
section
/- Links of words: what the program's functions answer, in numbers. No condition. -/
namespace Go.Proofs.YtpaiejeipghehaaGreat
set_option maxRecDepth 100000
set_option linter.unusedSimpArgs false

def lkSlot (w : Int) : Int := IntKind.i64.wrap (fieldP w 40 (64 - 23))
def lkVer (w : Int) : Int := IntKind.i64.wrap (fieldP w 0 (64 - 40))
def lkMark (w : Int) : Bool := w.fdiv (2 ^ min (Int.toNat 63) IntKind.u64.bits) == 1
def lkOK (s v : Int) : Prop := (0 ≤ s ∧ s ≤ 8388607) ∧ 0 ≤ v ∧ v ≤ 1099511627775
def lkRaw (m s v : Int) : Int := putP (putP (putP 0 v 0 (64 - 40)) s 40 (64 - 23)) m 63 (64 - 1)
theorem lkSlot_eq {w : Int} (h0 : 0 ≤ w) : lkSlot w = w / 1099511627776 % 8388608 := by
  have e := fieldP_eq h0 40 23 (by omega) (by omega)
  have e' : fieldP w 40 (64 - 23) = w / 1099511627776 % 8388608 := e
  rw [lkSlot, e', wrapI (by omega) (by omega)]
theorem lkVer_eq {w : Int} (h0 : 0 ≤ w) : lkVer w = w % 1099511627776 := by
  have e := fieldP_eq h0 0 40 (by omega) (by omega)
  have e' : fieldP w 0 (64 - 40) = w / 1 % 1099511627776 := e
  rw [lkVer, e', Int.ediv_one, wrapI (by omega) (by omega)]
theorem lkMark_eq {w : Int} (h0 : 0 ≤ w) (h1 : w < 18446744073709551616) : lkMark w = decide (9223372036854775808 ≤ w) := by
  have e : (2 ^ min (Int.toNat 63) IntKind.u64.bits : Int) = 9223372036854775808 := by rfl
  rw [lkMark, e, Int.fdiv_eq_ediv_of_nonneg _ (by omega), Bool.eq_iff_iff, beq_iff_eq, decide_eq_true_eq]
  omega
theorem lkRaw_eq {m s v : Int} (hm : m = 0 ∨ m = 1) (h : lkOK s v) : lkRaw m s v = v + s * 1099511627776 + m * 9223372036854775808 := by
  obtain ⟨⟨h1, h2⟩, h3, h4⟩ := h
  have e1 : putP 0 v 0 (64 - 40) = 0 + v * 2 ^ 0 := putP_eq (w := 0) (x := v) 0 40 (by omega) (by omega) h3 (by omega) (by omega) (by omega)
  have e2 : putP v s 40 (64 - 23) = v + s * 2 ^ 40 := putP_eq (w := v) (x := s) 40 23 h3 (by omega) h1 (by omega) (by omega) (by omega)
  have e3 : putP (v + s * 2 ^ 40) m 63 (64 - 1) = v + s * 2 ^ 40 + m * 2 ^ 63 := putP_eq (w := v + s * 2 ^ 40) (x := m) 63 1 (by omega) (by omega) (by omega) (by omega) (by omega) (by omega)
  rw [lkRaw, e1, show (0 : Int) + v * 2 ^ 0 = v by omega, e2, e3]
  omega
end Go.Proofs.YtpaiejeipghehaaGreat
end
