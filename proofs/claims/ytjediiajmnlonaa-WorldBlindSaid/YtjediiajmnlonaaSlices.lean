/- Laws on slices of structs that a call made itself: copy out of such a slice into a row. No condition. -/
import Derived.Test.YtjediiajmnlonaaBase
import Derived.Laws.CopyOwn
import Derived.ArgAppend
import Derived.Tactics
namespace Go.Proofs.Ytjediiajmnlonaa
open Go.RowKit

section
variable {P : Program}
theorem run_copy_owned (w : World) (dT sT ty elem : TypeId) (g dLen dCap : Nat) (v : Value) (n sz base : Nat) (e : TypeId) (xs cur : List Value) (t : TypeId)
    (hown : w.ownsRow base e sz v n xs) (hu : P.underlying dT = some (.slice elem)) (hs : (P.info? elem).map (·.size) = some sz)
    (hg : Blk w g t cur) (hn : n ≤ dLen) (hfit : xs.length ≤ cur.length) (h1 : ∀ u ∈ xs, u.oneCell' = true) :
    ∃ w', (Builtin.copy_ #[dT, sT] ty #[.slice (some ⟨g, 0, none⟩) dLen dCap, v]).run P w = .ok (goInt n) w' ∧ Blk w' g t (xs ++ cur.drop xs.length) ∧ w.grownBy w' (some g) := by
  cases hq : P.info? elem with
  | none => simp [hq] at hs
  | some i =>
    have hi : i.size = sz := by simpa [hq] using hs
    rcases hown.2 with ⟨rfl, rfl⟩ | ⟨g', cap, cur', rfl, _, hg', hnc, _, hsz, htake⟩
    · have hx : xs = [] := List.eq_nil_of_length_eq_zero (by simpa using hown.1)
      subst hx
      refine ⟨w, ?_, by simpa using hg, World.grownBy.refl _ _⟩
      simp [Builtin.copy_, run_underlying hu, Builtin.lenOf, Builtin.firstCells, sizeOf, typeInfo, hq, storeCells]
    · have hl := run_loadCells_list (P := P) w ⟨g', 0, none⟩ xs (hown.cells (g := g') rfl)
      have hst := run_storeCells_at P g 0 t xs 0 cur.toArray w hg (by simpa using hfit) h1
      refine ⟨_, ?_, setRow_heap w g _ _ t _ hg, ?_⟩
      · have hmin : Nat.min n dLen = n := Nat.min_eq_left hn
        have hlen := hown.1
        simp [Builtin.copy_, run_underlying hu, Builtin.lenOf, Builtin.firstCells, sizeOf, typeInfo, hq, hi, hmin, ← hlen, hl, hst]
      · exact ⟨rfl, rfl, rfl, by simp, fun k _ hk => setRow_other w g k _ (fun e => hk (by rw [e]))⟩

theorem wpList_copy_owned {w : World} {ops : Array Oper} {rest : List Oper} {o : Oper} {a : Act} {Q : Exit → Act → World → Prop} (hgd : o.guard = none) (d s : Operand) (dT sT : TypeId)
    (ho : o.op = .call { callee := .builtin .copy, args := #[d, s], argTypes := #[dT, sT] }) (elem : TypeId) (hu : P.underlying dT = some (.slice elem)) (sz : Nat) (hs : (P.info? elem).map (·.size) = some sz)
    (g dLen dCap : Nat) (v : Value) (hd : a.eval d = .slice (some ⟨g, 0, none⟩) dLen dCap) (hv : a.eval s = v) (n base : Nat) (e : TypeId) (xs cur : List Value) (t : TypeId)
    (hown : w.ownsRow base e sz v n xs) (hg : Blk w g t cur) (hn : n ≤ dLen) (hfit : xs.length ≤ cur.length) (h1 : ∀ u ∈ xs, u.oneCell' = true)
    (h : ∀ w', Blk w' g t (xs ++ cur.drop xs.length) → w.grownBy w' (some g) → wpList P ops Q rest (a.put o.dst (goInt n)) w') : wpList P ops Q (o :: rest) a w := by
  refine wpList_plain hgd fun K hK => ?_
  obtain ⟨w', hrun, hb, hgr⟩ := run_copy_owned (P := P) w dT sT o.type elem g dLen dCap v n sz base e xs cur t hown hu hs hg hn hfit h1
  unfold Oper.wp
  simp [execOp, ho, resolve, invoke, builtin, hd, hv, hrun, Result.andThen]
  exact hK _ _ (h w' hb hgr)
end

theorem Blk.of_own {w : World} {base e sz g n : Nat} {xs : List Value} (h : w.ownsRow base e sz (.slice (some ⟨g, 0, none⟩) n n) n xs) : Blk w g e xs ∧ base ≤ g := by
  rcases h.2 with ⟨h0, _⟩ | ⟨g', cap, cur, hv, hb, hg, _, _, hs, ht⟩
  · cases h0
  · injection hv with h1 _ h3
    injection h1 with h1
    injection h1 with h1
    subst h1
    subst h3
    refine ⟨?_, hb⟩
    unfold Blk
    rw [hg, ← ht, ← hs, ← Array.length_toList, List.take_length]

theorem made_flat {α : Type} {enc : α → List Value} {sz : Nat} (h : ∀ a, (enc a).length = sz) (hp : 0 < sz) (z : Array Value) (x : α) (hz : z.toList = enc x) (n : Nat) :
    (madeCells z (n * sz)).toList = flat enc (List.replicate n x) := by
  have hzs : z.size = sz := by rw [← Array.length_toList, hz, h]
  have hl := flat_length h (List.replicate n x)
  rw [List.length_replicate] at hl
  apply List.ext_getElem?
  intro k
  rcases Nat.lt_or_ge k (n * sz) with hk | hk
  · have hj := Nat.mod_lt k hp
    have hi : k / sz < n := Nat.div_lt_of_lt_mul (by rw [Nat.mul_comm]; exact hk)
    have hf := flat_get h (List.replicate n x) (k / sz) (k % sz) hj
    rw [Nat.div_add_mod' k sz] at hf
    rw [hf]
    have hjz : k % sz < z.size := by omega
    simp only [madeCells, hzs, Array.toList_map, Array.toList_range, List.getElem?_map, List.getElem?_range hk, Option.map_some, List.getElem?_replicate, if_pos hi, Option.bind_some, ← hz, Array.getElem?_toList]
    rw [Array.getElem?_eq_getElem hjz, getElem!_pos z (k % sz) hjz]
  · rw [List.getElem?_eq_none (by simpa [madeCells] using hk), List.getElem?_eq_none (by omega)]

theorem Blk.new' {g : Nat} (w : World) (t : TypeId) (cs : List Value) (h : g = w.heap.size) : Blk (w.alloc (.cells cs.toArray t)) g t cs := by
  subst h
  exact Blk.new w t cs

theorem own_form {w : World} {base e sz n : Nat} {v : Value} {xs : List Value} (h : w.ownsRow base e sz v n xs) : ∃ A c, v = .slice A n c := by
  rcases h.2 with ⟨rfl, rfl⟩ | ⟨g, cap, cur, rfl, _⟩
  · exact ⟨none, 0, rfl⟩
  · exact ⟨_, _, rfl⟩

/-- A slice value of address A reads as these cells, from place o of block b on. -/
def Rd (w : World) (b o : Nat) (A : Option Addr) (cells : List Value) : Prop := ∀ j u, cells[j]? = some u → A = some ⟨b, o, none⟩ ∧ w.cell? ⟨b, o + j, none⟩ = some u
theorem Rd.mod {S : List Nat} {w w' : World} {b o : Nat} {A : Option Addr} {cs : List Value} (h : Rd w b o A cs) (hm : Mod S w w') (hb : cs ≠ [] → b ∉ S) : Rd w' b o A cs := fun j u hj =>
  ⟨(h j u hj).1, (hm.cell (p := ⟨b, o + j, none⟩) (World.block_lt_of_cell? w _ (h j u hj).2) (hb (fun e => by subst e; cases hj))).trans (h j u hj).2⟩
theorem Rd.lt {w : World} {b o : Nat} {A : Option Addr} {cs : List Value} (h : Rd w b o A cs) (hn : cs ≠ []) : b < w.heap.size := by
  obtain ⟨x, l, rfl⟩ := List.exists_cons_of_ne_nil hn
  exact World.block_lt_of_cell? w _ (h 0 x rfl).2

theorem Rd.of_own {w : World} {base e sz n c : Nat} {A : Option Addr} {cs : List Value} (h : w.ownsRow base e sz (.slice A n c) n cs) : ∃ b, Rd w b 0 A cs ∧ (cs ≠ [] → base ≤ b) := by
  rcases h.2 with ⟨h0, hn⟩ | ⟨g, cap, cur, hv, hb, hg, r⟩
  · refine ⟨0, fun j u hj => ?_, fun hne => ?_⟩
    · have hx : cs = [] := List.eq_nil_of_length_eq_zero (by rw [h.1, hn]; simp)
      subst hx
      cases hj
    · exact absurd (List.eq_nil_of_length_eq_zero (by rw [h.1, hn]; simp)) hne
  · injection hv with hA
    subst hA
    refine ⟨g, fun j u hj => ⟨rfl, ?_⟩, fun _ => hb⟩
    have := h.cells (g := g) rfl j u hj
    rw [← this]
    unfold Addr.add
    split <;> simp_all

section
variable {P : Program}
/-- append onto a row of the call's own, from a row that is known whole (nil let in). -/
theorem run_append_owned (w : World) (t ty base e : TypeId) (i : TypeInfo) (z : Value) (size bytes : Nat) (ht : P.underlying t = some (.slice e)) (hi : P.info? e = some i) (hz : i.zero = some z)
    (hsize : i.size = size) (hby : i.bytes = bytes) (hzs : z.cells.size = size) (hsz : 0 < size)
    (v : Value) (n : Nat) (xs : List Value) (hown : w.ownsRow base e size v n xs)
    (s : Value) (m base' e' : Nat) (ys : List Value) (hs : w.ownsRow base' e' size s m ys) (h1 : ∀ u ∈ ys, u.oneCell' = true)
    (h63 : n + m ≤ maxLen) (hbytes : (n + m) * bytes ≤ 140737488355328) (hbase : base ≤ w.heap.size) :
    ∃ A c w', (Builtin.append_ #[t, t] ty #[v, s]).run P w = .ok (.slice A (n + m) c) w' ∧ w'.ownsRow base e size (.slice A (n + m) c) (n + m) (xs ++ ys) ∧ w.grownBy w' v.ownBlock ∧
      ((Value.slice A (n + m) c).ownBlock = v.ownBlock ∨ (Value.slice A (n + m) c).ownBlock = some w.heap.size) := by
  rcases hs.2 with ⟨rfl, rfl⟩ | ⟨g, cap, cur, rfl, _, _, _⟩
  · have hx : ys = [] := List.eq_nil_of_length_eq_zero (by simpa using hs.1)
    subst hx
    obtain ⟨A, c, rfl⟩ := own_form hown
    exact ⟨A, c, w, run_append_owned_none (P := P) w base t ty e i size ht hi _ n xs hown, by simpa using hown, World.grownBy.refl _ _, .inl rfl⟩
  · obtain ⟨v', w', hrun, h2, h3, _, h5⟩ := run_append_own_at (P := P) w base t ty e i z size bytes ht hi hz hsize hby hzs hsz v n xs hown ⟨g, 0, none⟩ m cap ys hs.1 (hs.cells rfl) h1 h63 hbytes hbase
    obtain ⟨A, c, rfl⟩ := own_form h2
    exact ⟨A, c, w', hrun, h2, h3, h5⟩

theorem wp_append_owned {w : World} {o : Oper} {a : Act} {K : Act → World → Prop} {Q : Exit → Act → World → Prop} (s x : Operand) (t : TypeId)
    (ho : o.op = .call { callee := .builtin .append, args := #[s, x], argTypes := #[t, t] })
    (base e : TypeId) (i : TypeInfo) (z : Value) (size bytes : Nat) (ht : P.underlying t = some (.slice e)) (hi : P.info? e = some i) (hz : i.zero = some z)
    (hsize : i.size = size) (hby : i.bytes = bytes) (hzs : z.cells.size = size) (hsz : 0 < size)
    (v : Value) (n : Nat) (xs : List Value) (hv : a.eval s = v) (hown : w.ownsRow base e size v n xs)
    (y : Value) (m base' e' : Nat) (ys : List Value) (hy : a.eval x = y) (hs : w.ownsRow base' e' size y m ys) (h1 : ∀ u ∈ ys, u.oneCell' = true)
    (h63 : n + m ≤ maxLen) (hbytes : (n + m) * bytes ≤ 140737488355328) (hbase : base ≤ w.heap.size)
    (h : ∀ A c w', w'.ownsRow base e size (.slice A (n + m) c) (n + m) (xs ++ ys) → w.grownBy w' v.ownBlock → ((Value.slice A (n + m) c).ownBlock = v.ownBlock ∨ (Value.slice A (n + m) c).ownBlock = some w.heap.size) → K (a.put o.dst (.slice A (n + m) c)) w') : o.wp P a w K Q := by
  obtain ⟨A, c, w', hr, h2, h3, h4⟩ := run_append_owned (P := P) w t o.type base e i z size bytes ht hi hz hsize hby hzs hsz v n xs hown y m base' e' ys hs h1 h63 hbytes hbase
  unfold Oper.wp execOp
  simp only [ho, resolve, invoke, builtin, Sem.run_bind, Sem.run_pure, Result.andThen_ok, List.map_toArray, List.map_cons, List.map_nil, hv, hy, hr]
  exact h A c w' h2 h3 h4

theorem wpList_append_owned {w : World} {ops : Array Oper} {rest : List Oper} {o : Oper} {a : Act} {Q : Exit → Act → World → Prop} (hgd : o.guard = none) (s x : Operand) (t : TypeId)
    (ho : o.op = .call { callee := .builtin .append, args := #[s, x], argTypes := #[t, t] })
    (base e : TypeId) (i : TypeInfo) (z : Value) (size bytes : Nat) (ht : P.underlying t = some (.slice e)) (hi : P.info? e = some i) (hz : i.zero = some z)
    (hsize : i.size = size) (hby : i.bytes = bytes) (hzs : z.cells.size = size) (hsz : 0 < size)
    (v : Value) (n : Nat) (xs : List Value) (hv : a.eval s = v) (hown : w.ownsRow base e size v n xs)
    (y : Value) (m base' e' : Nat) (ys : List Value) (hy : a.eval x = y) (hs : w.ownsRow base' e' size y m ys) (h1 : ∀ u ∈ ys, u.oneCell' = true)
    (h63 : n + m ≤ maxLen) (hbytes : (n + m) * bytes ≤ 140737488355328) (hbase : base ≤ w.heap.size)
    (h : ∀ A c w', w'.ownsRow base e size (.slice A (n + m) c) (n + m) (xs ++ ys) → w.grownBy w' v.ownBlock → ((Value.slice A (n + m) c).ownBlock = v.ownBlock ∨ (Value.slice A (n + m) c).ownBlock = some w.heap.size) → wpList P ops Q rest (a.put o.dst (.slice A (n + m) c)) w') : wpList P ops Q (o :: rest) a w :=
  wpList_plain hgd fun _ hK => wp_append_owned s x t ho base e i z size bytes ht hi hz hsize hby hzs hsz v n xs hv hown y m base' e' ys hy hs h1 h63 hbytes hbase fun A c w' h2 h3 h4 => hK _ _ (h A c w' h2 h3 h4)

theorem step_append_owned {w : World} {ops : Array Oper} {o : Oper} {a : Act} {K : Act → World → Prop} {Q : Exit → Act → World → Prop} {E : Prop} (hgd : o.guard = none) (s x : Operand) (t : TypeId)
    (ho : o.op = .call { callee := .builtin .append, args := #[s, x], argTypes := #[t, t] })
    (base e : TypeId) (i : TypeInfo) (z : Value) (size bytes : Nat) (ht : P.underlying t = some (.slice e)) (hi : P.info? e = some i) (hz : i.zero = some z)
    (hsize : i.size = size) (hby : i.bytes = bytes) (hzs : z.cells.size = size) (hsz : 0 < size)
    (v : Value) (n : Nat) (xs : List Value) (hv : a.eval s = v) (hown : w.ownsRow base e size v n xs)
    (y : Value) (m base' e' : Nat) (ys : List Value) (hy : a.eval x = y) (hs : w.ownsRow base' e' size y m ys) (h1 : ∀ u ∈ ys, u.oneCell' = true)
    (h63 : n + m ≤ maxLen) (hbytes : (n + m) * bytes ≤ 140737488355328) (hbase : base ≤ w.heap.size)
    (h : ∀ A c w', w'.ownsRow base e size (.slice A (n + m) c) (n + m) (xs ++ ys) → w.grownBy w' v.ownBlock → ((Value.slice A (n + m) c).ownBlock = v.ownBlock ∨ (Value.slice A (n + m) c).ownBlock = some w.heap.size) → K (a.put o.dst (.slice A (n + m) c)) w') :
    if Region.wanted o (yielded ops a.tmps) = true then Oper.wp P o a w K Q else E := by
  have hw : Region.wanted o (yielded ops a.tmps) = true := by simp [Region.wanted, hgd]
  rw [if_pos hw]
  exact wp_append_owned s x t ho base e i z size bytes ht hi hz hsize hby hzs hsz v n xs hv hown y m base' e' ys hy hs h1 h63 hbytes hbase h

theorem ownsRow_base {w : World} {base base' e sz n : Nat} {v : Value} {xs : List Value} (h : w.ownsRow base e sz v n xs) (hb : base' ≤ base) : w.ownsRow base' e sz v n xs := by
  refine ⟨h.1, ?_⟩
  rcases h.2 with h0 | ⟨g, cap, cur, hv, hg, r⟩
  · exact .inl h0
  · exact .inr ⟨g, cap, cur, hv, Nat.le_trans hb hg, r⟩

/-- append([]T{}, s...): a copy. -/
theorem run_append_clone (w : World) (t ty base e : TypeId) (i : TypeInfo) (z : Value) (size bytes : Nat) (ht : P.underlying t = some (.slice e)) (hi : P.info? e = some i) (hz : i.zero = some z)
    (hsize : i.size = size) (hby : i.bytes = bytes) (hzs : z.cells.size = size) (hsz : 0 < size)
    (g : Nat) (hown : w.ownsRow base e size (.slice (some ⟨g, 0, none⟩) 0 0) 0 [])
    (s : Value) (m base' e' : Nat) (ys : List Value) (hs : w.ownsRow base' e' size s m ys) (h1 : ∀ u ∈ ys, u.oneCell' = true)
    (h63 : m ≤ maxLen) (hbytes : m * bytes ≤ 140737488355328) (hbase : base ≤ w.heap.size) :
    ∃ A c w', (Builtin.append_ #[t, t] ty #[.slice (some ⟨g, 0, none⟩) 0 0, s]).run P w = .ok (.slice A m c) w' ∧ w'.ownsRow base e size (.slice A m c) m ys ∧ w.grownBy w' none := by
  rcases hs.2 with ⟨rfl, rfl⟩ | ⟨g', cap, cur, rfl, _, _, _⟩
  · have hx : ys = [] := List.eq_nil_of_length_eq_zero (by simpa using hs.1)
    subst hx
    exact ⟨_, _, w, run_append_owned_none (P := P) w base t ty e i size ht hi _ 0 [] hown, hown, World.grownBy.refl _ _⟩
  · rcases Nat.eq_zero_or_pos m with hm | hm
    · subst hm
      have hx : ys = [] := List.eq_nil_of_length_eq_zero (by simpa using hs.1)
      subst hx
      obtain ⟨hb, _⟩ := Blk.of_own hown
      have hr := run_append_room (P := P) w t ty e i ht hi g 0 0 #[] hb ⟨g', 0, none⟩ 0 cap [] (by simp) (by simp) (by simp) (by omega) (by simp)
      refine ⟨_, _, w, ?_, hown, World.grownBy.refl _ _⟩
      rw [hr]
      simp [setRow_self w g #[] e (0, 0) hb]
    · obtain ⟨v', w', hrun, h2, h3⟩ := run_append_arg_grows (P := P) w t ty e i z size bytes ht hi hz hsize hby hzs hsz ⟨g, 0, none⟩ 0 0 [] (by simp) (by simp) ⟨g', 0, none⟩ m cap ys hs.1 (hs.cells rfl) (by omega) (by omega) (by rw [Nat.zero_add]; exact hbytes)
      rw [Nat.zero_add] at h2
      obtain ⟨A, c, rfl⟩ := own_form h2
      exact ⟨A, c, w', hrun, ownsRow_base (by simpa using h2) hbase, h3⟩

theorem wpList_append_clone {w : World} {ops : Array Oper} {rest : List Oper} {o : Oper} {a : Act} {Q : Exit → Act → World → Prop} (hgd : o.guard = none) (s x : Operand) (t : TypeId)
    (ho : o.op = .call { callee := .builtin .append, args := #[s, x], argTypes := #[t, t] })
    (base e : TypeId) (i : TypeInfo) (z : Value) (size bytes : Nat) (ht : P.underlying t = some (.slice e)) (hi : P.info? e = some i) (hz : i.zero = some z)
    (hsize : i.size = size) (hby : i.bytes = bytes) (hzs : z.cells.size = size) (hsz : 0 < size)
    (g : Nat) (hv : a.eval s = .slice (some ⟨g, 0, none⟩) 0 0) (hown : w.ownsRow base e size (.slice (some ⟨g, 0, none⟩) 0 0) 0 [])
    (y : Value) (m base' e' : Nat) (ys : List Value) (hy : a.eval x = y) (hs : w.ownsRow base' e' size y m ys) (h1 : ∀ u ∈ ys, u.oneCell' = true)
    (h63 : m ≤ maxLen) (hbytes : m * bytes ≤ 140737488355328) (hbase : base ≤ w.heap.size)
    (h : ∀ A c w', w'.ownsRow base e size (.slice A m c) m ys → w.grownBy w' none → wpList P ops Q rest (a.put o.dst (.slice A m c)) w') : wpList P ops Q (o :: rest) a w := by
  refine wpList_plain hgd fun K hK => ?_
  obtain ⟨A, c, w', hr, h2, h3⟩ := run_append_clone (P := P) w t o.type base e i z size bytes ht hi hz hsize hby hzs hsz g hown y m base' e' ys hs h1 h63 hbytes hbase
  unfold Oper.wp execOp
  simp only [ho, resolve, invoke, builtin, Sem.run_bind, Sem.run_pure, Result.andThen_ok, List.map_toArray, List.map_cons, List.map_nil, hv, hy, hr]
  exact hK _ _ (h A c w' h2 h3)

/-- The same from a slice of which it is known how it reads. -/
theorem run_append_clone_rd (w : World) (t ty base e : TypeId) (i : TypeInfo) (z : Value) (size bytes : Nat) (ht : P.underlying t = some (.slice e)) (hi : P.info? e = some i) (hz : i.zero = some z)
    (hsize : i.size = size) (hby : i.bytes = bytes) (hzs : z.cells.size = size) (hsz : 0 < size)
    (g : Nat) (hown : w.ownsRow base e size (.slice (some ⟨g, 0, none⟩) 0 0) 0 [])
    (A : Option Addr) (m c b o : Nat) (ys : List Value) (hA : A = none → c = 0) (hr : Rd w b o A ys) (hl : ys.length = m * size) (h1 : ∀ u ∈ ys, u.oneCell' = true)
    (h63 : m ≤ maxLen) (hbytes : m * bytes ≤ 140737488355328) (hbase : base ≤ w.heap.size) :
    ∃ A' c' w', (Builtin.append_ #[t, t] ty #[.slice (some ⟨g, 0, none⟩) 0 0, .slice A m c]).run P w = .ok (.slice A' m c') w' ∧ w'.ownsRow base e size (.slice A' m c') m ys ∧ w.grownBy w' none := by
  rcases Nat.eq_zero_or_pos m with hm | hm
  · subst hm
    have hx : ys = [] := List.eq_nil_of_length_eq_zero (by simpa using hl)
    subst hx
    rcases A with _ | ad
    · obtain rfl := hA rfl
      exact ⟨_, _, w, run_append_owned_none (P := P) w base t ty e i size ht hi _ 0 [] hown, hown, World.grownBy.refl _ _⟩
    · obtain ⟨hb, _⟩ := Blk.of_own hown
      have hr := run_append_room (P := P) w t ty e i ht hi g 0 0 #[] hb ad 0 c [] (by simp) (by simp) (by simp) (by omega) (by simp)
      refine ⟨_, _, w, ?_, hown, World.grownBy.refl _ _⟩
      rw [hr]
      simp [setRow_self w g #[] e (0, 0) hb]
  · have hne : ys ≠ [] := by
      intro e0
      subst e0
      have := Nat.mul_pos hm hsz
      simp at hl
      omega
    obtain ⟨x, l, hx⟩ := List.exists_cons_of_ne_nil hne
    obtain ⟨rfl, _⟩ := hr 0 x (by rw [hx]; rfl)
    obtain ⟨v', w', hrun, h2, h3⟩ := run_append_arg_grows (P := P) w t ty e i z size bytes ht hi hz hsize hby hzs hsz ⟨g, 0, none⟩ 0 0 [] (by simp) (by simp) ⟨b, o, none⟩ m c ys hl
      (fun j u hj => by have := (hr j u hj).2; rw [← this]; unfold Addr.add; split <;> simp_all) (by omega) (by omega) (by rw [Nat.zero_add]; exact hbytes)
    rw [Nat.zero_add] at h2
    obtain ⟨A', c', rfl⟩ := own_form h2
    exact ⟨A', c', w', hrun, ownsRow_base (by simpa using h2) hbase, h3⟩

theorem wpList_append_clone_rd {w : World} {ops : Array Oper} {rest : List Oper} {o : Oper} {a : Act} {Q : Exit → Act → World → Prop} (hgd : o.guard = none) (s x : Operand) (t : TypeId)
    (ho : o.op = .call { callee := .builtin .append, args := #[s, x], argTypes := #[t, t] })
    (base e : TypeId) (i : TypeInfo) (z : Value) (size bytes : Nat) (ht : P.underlying t = some (.slice e)) (hi : P.info? e = some i) (hz : i.zero = some z)
    (hsize : i.size = size) (hby : i.bytes = bytes) (hzs : z.cells.size = size) (hsz : 0 < size)
    (g : Nat) (hv : a.eval s = .slice (some ⟨g, 0, none⟩) 0 0) (hown : w.ownsRow base e size (.slice (some ⟨g, 0, none⟩) 0 0) 0 [])
    (A : Option Addr) (m c b off : Nat) (ys : List Value) (hy : a.eval x = .slice A m c) (hA : A = none → c = 0) (hr : Rd w b off A ys) (hl : ys.length = m * size) (h1 : ∀ u ∈ ys, u.oneCell' = true)
    (h63 : m ≤ maxLen) (hbytes : m * bytes ≤ 140737488355328) (hbase : base ≤ w.heap.size)
    (h : ∀ A c w', w'.ownsRow base e size (.slice A m c) m ys → w.grownBy w' none → wpList P ops Q rest (a.put o.dst (.slice A m c)) w') : wpList P ops Q (o :: rest) a w := by
  refine wpList_plain hgd fun K hK => ?_
  obtain ⟨A', c', w', hrun, h2, h3⟩ := run_append_clone_rd (P := P) w t o.type base e i z size bytes ht hi hz hsize hby hzs hsz g hown A m c b off ys hA hr hl h1 h63 hbytes hbase
  unfold Oper.wp execOp
  simp only [ho, resolve, invoke, builtin, Sem.run_bind, Sem.run_pure, Result.andThen_ok, List.map_toArray, List.map_cons, List.map_nil, hv, hy, hrun]
  exact hK _ _ (h A' c' w' h2 h3)
end
end Go.Proofs.Ytjediiajmnlonaa
