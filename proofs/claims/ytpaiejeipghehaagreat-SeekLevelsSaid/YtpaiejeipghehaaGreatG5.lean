/- nodes of the laws of layer 15: its runs from point to point. No condition. -/
import Derived.Test.YtpaiejeipghehaaGreatG4
import Derived.Shelf.SlSortCmp.NoneTotal
import Derived.Test.YtpaiejeipghehaaGreatG1
import Derived.Laws.CopyOwn
import Derived.ArgAppend
import Derived.Tactics
import Derived.StillTail
import Derived.Deep.RegionHeld3
import Derived.Tactics2
import Derived.Sort.Grow
import Derived.Shelf.SlicesG.Cmp
import Derived.Test.YtpaiejeipghehaaGreatG2
import Derived.Test.YtpaiejeipghehaaGreatG3
import Derived.RangeFuncBound
import Derived.Shelf.AbstractIn
import Derived.Shelf.SlMaps.Clone
section
/- slices.SortFunc at places: the shelf's contract, laid at this program. -/
namespace Go.Proofs.YtpaiejeipghehaaGreat
open Go.Shelf Go.RowKit Go.Lib Go.Sort

def sortP_ren : Go.Shelf.Ren := ⟨fun | 6 => 118 | 15 => 128 | 14 => 127 | 28 => 142 | 29 => 143 | 20 => 134 | 21 => 135 | 22 => 136 | 23 => 137 | 24 => 138 | 25 => 139 | 26 => 140 | 27 => 141 | 46 => 147 | 47 => 148 | 48 => 149 | 49 => 150 | 50 => 151 | 57 => 154 | n => n, fun | 22 => 113 | 24 => 51 | 25 => 177 | 3 => 3 | 39 => 30 | 0 => 0 | 53 => 214 | 55 => 23 | 4 => 4 | 46 => 208 | 45 => 207 | 50 => 162 | 5 => 5 | 9 => 9 | 66 => 220 | 70 => 223 | 76 => 225 | 77 => 226 | n => n, fun n => n⟩
set_option maxRecDepth 100000 in
theorem sortP_laid : SlLaysF0.n6 Tryz.prog sortP_ren := {
  mixed := by kernel_rfl
  f6 := ⟨Tryz.f118.name, by decide, Tryz.func118.trans (congrArg some (by kernel_rfl))⟩
  f14 := ⟨Tryz.f127.name, by decide, Tryz.func127.trans (congrArg some (by kernel_rfl))⟩
  f15 := Tryz.func128.trans (congrArg some (by kernel_rfl))
  f20 := ⟨Tryz.f134.name, by decide, Tryz.func134.trans (congrArg some (by kernel_rfl))⟩
  f21 := ⟨Tryz.f135.name, by decide, Tryz.func135.trans (congrArg some (by kernel_rfl))⟩
  f22 := ⟨Tryz.f136.name, by decide, Tryz.func136.trans (congrArg some (by kernel_rfl))⟩
  f23 := ⟨Tryz.f137.name, by decide, Tryz.func137.trans (congrArg some (by kernel_rfl))⟩
  f24 := ⟨Tryz.f138.name, by decide, Tryz.func138.trans (congrArg some (by kernel_rfl))⟩
  f25 := ⟨Tryz.f139.name, by decide, Tryz.func139.trans (congrArg some (by kernel_rfl))⟩
  f26 := ⟨Tryz.f140.name, by decide, Tryz.func140.trans (congrArg some (by kernel_rfl))⟩
  f27 := ⟨Tryz.f141.name, by decide, Tryz.func141.trans (congrArg some (by kernel_rfl))⟩
  f28 := Tryz.func142.trans (congrArg some (by kernel_rfl))
  f29 := Tryz.func143.trans (congrArg some (by kernel_rfl))
  f46 := ⟨Tryz.f147.name, by decide, Tryz.func147.trans (congrArg some (by kernel_rfl))⟩
  f47 := Tryz.func148.trans (congrArg some (by kernel_rfl))
  f48 := Tryz.func149.trans (congrArg some (by kernel_rfl))
  f49 := ⟨Tryz.f150.name, by decide, Tryz.func150.trans (congrArg some (by kernel_rfl))⟩
  f50 := ⟨Tryz.f151.name, by decide, Tryz.func151.trans (congrArg some (by kernel_rfl))⟩
  f57 := ⟨Tryz.f154.name, by decide, Tryz.func154.trans (congrArg some (by kernel_rfl))⟩
  t0 := Tryz.underlying0
  a0 := Tryz.isAgg0
  z0 := Tryz.sizeOf0
  v0 := Tryz.zeroValue0
  t3 := Tryz.underlying3
  a3 := Tryz.isAgg3
  z3 := Tryz.sizeOf3
  v3 := Tryz.zeroValue3
  t4 := Tryz.underlying4
  a4 := Tryz.isAgg4
  z4 := Tryz.sizeOf4
  v4 := Tryz.zeroValue4
  t5 := Tryz.underlying5
  a5 := Tryz.isAgg5
  z5 := Tryz.sizeOf5
  v5 := Tryz.zeroValue5
  t9 := Tryz.underlying9
  a9 := Tryz.isAgg9
  z9 := Tryz.sizeOf9
  v9 := Tryz.zeroValue9
  t22 := Tryz.underlying113
  a22 := Tryz.isAgg113
  z22 := Tryz.sizeOf113
  v22 := Tryz.zeroValue113
  t25 := Tryz.underlying177
  a25 := Tryz.isAgg177
  z25 := Tryz.sizeOf177
  v25 := Tryz.zeroValue177
  t39 := Tryz.underlying30
  a39 := Tryz.isAgg30
  z39 := Tryz.sizeOf30
  v39 := Tryz.zeroValue30
  t45 := Tryz.underlying207
  a45 := Tryz.isAgg207
  z45 := Tryz.sizeOf207
  v45 := Tryz.zeroValue207
  t46 := Tryz.underlying208
  a46 := Tryz.isAgg208
  z46 := Tryz.sizeOf208
  v46 := Tryz.zeroValue208
  t50 := Tryz.underlying162
  a50 := Tryz.isAgg162
  z50 := Tryz.sizeOf162
  v50 := Tryz.zeroValue162
  t53 := Tryz.underlying214
  a53 := Tryz.isAgg214
  z53 := Tryz.sizeOf214
  v53 := Tryz.zeroValue214
  t55 := Tryz.underlying23
  a55 := Tryz.isAgg23
  z55 := Tryz.sizeOf23
  v55 := Tryz.zeroValue23
  t66 := Tryz.underlying220
  a66 := Tryz.isAgg220
  z66 := Tryz.sizeOf220
  v66 := Tryz.zeroValue220
  t70 := Tryz.underlying223
  a70 := Tryz.isAgg223
  z70 := Tryz.sizeOf223
  v70 := Tryz.zeroValue223
  t76 := Tryz.underlying225
  a76 := Tryz.isAgg225
  z76 := Tryz.sizeOf225
  v76 := Tryz.zeroValue225
  t77 := Tryz.underlying226
  a77 := Tryz.isAgg226
  z77 := Tryz.sizeOf226
  v77 := Tryz.zeroValue226 }
end Go.Proofs.YtpaiejeipghehaaGreat
end
section
/- Laws on slices of structs that a call made itself: copy out of such a slice into a row. No condition. -/
namespace Go.Proofs.YtpaiejeipghehaaGreat
open Go.RowKit

section
variable {P : Program}
theorem run_copy_owned (w : World) (dT sT ty elem : TypeId) (g dLen dCap : Nat) (v : Value) (n sz base : Nat) (e : TypeId) (xs cur : List Value) (t : TypeId)
    (hown : w.ownsRow base e sz v n xs) (hu : P.underlying dT = some (.slice elem)) (hs : (P.info? elem).map (·.size) = some sz)
    (hg : Blk w g t cur) (hn : n ≤ dLen) (hfit : xs.length ≤ cur.length) (h1 : ∀ u ∈ xs, u.oneCell' = true) :
    ∃ w', (Builtin.copy_ #[dT, sT] ty #[.slice (some ⟨g, 0, none⟩) dLen dCap, v]).run P w = .ok (goInt n) w' ∧ Blk w' g t (xs ++ cur.drop xs.length) ∧ w.grownBy w' (some g) := by
  cases hq : P.info? elem with
  | none => simp [hq] at hs
  | some i =>
    have hi : i.size = sz := by simpa [hq] using hs
    rcases hown.2 with ⟨rfl, rfl⟩ | ⟨g', cap, cur', rfl, _, hg', hnc, _, hsz, htake⟩
    · have hx : xs = [] := List.eq_nil_of_length_eq_zero (by simpa using hown.1)
      subst hx
      refine ⟨w, ?_, by simpa using hg, World.grownBy.refl _ _⟩
      simp [Builtin.copy_, run_underlying hu, Builtin.lenOf, Builtin.firstCells, sizeOf, typeInfo, hq, storeCells]
    · have hl := run_loadCells_list (P := P) w ⟨g', 0, none⟩ xs (hown.cells (g := g') rfl)
      have hst := run_storeCells_at P g 0 t xs 0 cur.toArray w hg (by simpa using hfit) h1
      refine ⟨_, ?_, setRow_heap w g _ _ t _ hg, ?_⟩
      · have hmin : Nat.min n dLen = n := Nat.min_eq_left hn
        have hlen := hown.1
        simp [Builtin.copy_, run_underlying hu, Builtin.lenOf, Builtin.firstCells, sizeOf, typeInfo, hq, hi, hmin, ← hlen, hl, hst]
      · exact ⟨rfl, rfl, rfl, by simp, fun k _ hk => setRow_other w g k _ (fun e => hk (by rw [e]))⟩

theorem wpList_copy_owned {w : World} {ops : Array Oper} {rest : List Oper} {o : Oper} {a : Act} {Q : Exit → Act → World → Prop} (hgd : o.guard = none) (d s : Operand) (dT sT : TypeId)
    (ho : o.op = .call { callee := .builtin .copy, args := #[d, s], argTypes := #[dT, sT] }) (elem : TypeId) (hu : P.underlying dT = some (.slice elem)) (sz : Nat) (hs : (P.info? elem).map (·.size) = some sz)
    (g dLen dCap : Nat) (v : Value) (hd : a.eval d = .slice (some ⟨g, 0, none⟩) dLen dCap) (hv : a.eval s = v) (n base : Nat) (e : TypeId) (xs cur : List Value) (t : TypeId)
    (hown : w.ownsRow base e sz v n xs) (hg : Blk w g t cur) (hn : n ≤ dLen) (hfit : xs.length ≤ cur.length) (h1 : ∀ u ∈ xs, u.oneCell' = true)
    (h : ∀ w', Blk w' g t (xs ++ cur.drop xs.length) → w.grownBy w' (some g) → wpList P ops Q rest (a.put o.dst (goInt n)) w') : wpList P ops Q (o :: rest) a w := by
  refine wpList_plain hgd fun K hK => ?_
  obtain ⟨w', hrun, hb, hgr⟩ := run_copy_owned (P := P) w dT sT o.type elem g dLen dCap v n sz base e xs cur t hown hu hs hg hn hfit h1
  unfold Oper.wp
  simp [execOp, ho, resolve, invoke, builtin, hd, hv, hrun, Result.andThen]
  exact hK _ _ (h w' hb hgr)
end

theorem Blk.of_own {w : World} {base e sz g n : Nat} {xs : List Value} (h : w.ownsRow base e sz (.slice (some ⟨g, 0, none⟩) n n) n xs) : Blk w g e xs ∧ base ≤ g := by
  rcases h.2 with ⟨h0, _⟩ | ⟨g', cap, cur, hv, hb, hg, _, _, hs, ht⟩
  · cases h0
  · injection hv with h1 _ h3
    injection h1 with h1
    injection h1 with h1
    subst h1
    subst h3
    refine ⟨?_, hb⟩
    unfold Blk
    rw [hg, ← ht, ← hs, ← Array.length_toList, List.take_length]

theorem made_flat {α : Type} {enc : α → List Value} {sz : Nat} (h : ∀ a, (enc a).length = sz) (hp : 0 < sz) (z : Array Value) (x : α) (hz : z.toList = enc x) (n : Nat) :
    (madeCells z (n * sz)).toList = flat enc (List.replicate n x) := by
  have hzs : z.size = sz := by rw [← Array.length_toList, hz, h]
  have hl := flat_length h (List.replicate n x)
  rw [List.length_replicate] at hl
  apply List.ext_getElem?
  intro k
  rcases Nat.lt_or_ge k (n * sz) with hk | hk
  · have hj := Nat.mod_lt k hp
    have hi : k / sz < n := Nat.div_lt_of_lt_mul (by rw [Nat.mul_comm]; exact hk)
    have hf := flat_get h (List.replicate n x) (k / sz) (k % sz) hj
    rw [Nat.div_add_mod' k sz] at hf
    rw [hf]
    have hjz : k % sz < z.size := by omega
    simp only [madeCells, hzs, Array.toList_map, Array.toList_range, List.getElem?_map, List.getElem?_range hk, Option.map_some, List.getElem?_replicate, if_pos hi, Option.bind_some, ← hz, Array.getElem?_toList]
    rw [Array.getElem?_eq_getElem hjz, getElem!_pos z (k % sz) hjz]
  · rw [List.getElem?_eq_none (by simpa [madeCells] using hk), List.getElem?_eq_none (by omega)]

theorem Blk.new' {g : Nat} (w : World) (t : TypeId) (cs : List Value) (h : g = w.heap.size) : Blk (w.alloc (.cells cs.toArray t)) g t cs := by
  subst h
  exact Blk.new w t cs

theorem own_form {w : World} {base e sz n : Nat} {v : Value} {xs : List Value} (h : w.ownsRow base e sz v n xs) : ∃ A c, v = .slice A n c := by
  rcases h.2 with ⟨rfl, rfl⟩ | ⟨g, cap, cur, rfl, _⟩
  · exact ⟨none, 0, rfl⟩
  · exact ⟨_, _, rfl⟩

/-- A slice value of address A reads as these cells, from place o of block b on. -/
def Rd (w : World) (b o : Nat) (A : Option Addr) (cells : List Value) : Prop := ∀ j u, cells[j]? = some u → A = some ⟨b, o, none⟩ ∧ w.cell? ⟨b, o + j, none⟩ = some u
theorem Rd.mod {S : List Nat} {w w' : World} {b o : Nat} {A : Option Addr} {cs : List Value} (h : Rd w b o A cs) (hm : Mod S w w') (hb : cs ≠ [] → b ∉ S) : Rd w' b o A cs := fun j u hj =>
  ⟨(h j u hj).1, (hm.cell (p := ⟨b, o + j, none⟩) (World.block_lt_of_cell? w _ (h j u hj).2) (hb (fun e => by subst e; cases hj))).trans (h j u hj).2⟩
theorem Rd.lt {w : World} {b o : Nat} {A : Option Addr} {cs : List Value} (h : Rd w b o A cs) (hn : cs ≠ []) : b < w.heap.size := by
  obtain ⟨x, l, rfl⟩ := List.exists_cons_of_ne_nil hn
  exact World.block_lt_of_cell? w _ (h 0 x rfl).2

theorem Rd.of_own {w : World} {base e sz n c : Nat} {A : Option Addr} {cs : List Value} (h : w.ownsRow base e sz (.slice A n c) n cs) : ∃ b, Rd w b 0 A cs ∧ (cs ≠ [] → base ≤ b) := by
  rcases h.2 with ⟨h0, hn⟩ | ⟨g, cap, cur, hv, hb, hg, r⟩
  · refine ⟨0, fun j u hj => ?_, fun hne => ?_⟩
    · have hx : cs = [] := List.eq_nil_of_length_eq_zero (by rw [h.1, hn]; simp)
      subst hx
      cases hj
    · exact absurd (List.eq_nil_of_length_eq_zero (by rw [h.1, hn]; simp)) hne
  · injection hv with hA
    subst hA
    refine ⟨g, fun j u hj => ⟨rfl, ?_⟩, fun _ => hb⟩
    have := h.cells (g := g) rfl j u hj
    rw [← this]
    unfold Addr.add
    split <;> simp_all

section
variable {P : Program}
/-- append onto a row of the call's own, from a row that is known whole (nil let in). -/
theorem run_append_owned (w : World) (t ty base e : TypeId) (i : TypeInfo) (z : Value) (size bytes : Nat) (ht : P.underlying t = some (.slice e)) (hi : P.info? e = some i) (hz : i.zero = some z)
    (hsize : i.size = size) (hby : i.bytes = bytes) (hzs : z.cells.size = size) (hsz : 0 < size)
    (v : Value) (n : Nat) (xs : List Value) (hown : w.ownsRow base e size v n xs)
    (s : Value) (m base' e' : Nat) (ys : List Value) (hs : w.ownsRow base' e' size s m ys) (h1 : ∀ u ∈ ys, u.oneCell' = true)
    (h63 : n + m ≤ maxLen) (hbytes : (n + m) * bytes ≤ 140737488355328) (hbase : base ≤ w.heap.size) :
    ∃ A c w', (Builtin.append_ #[t, t] ty #[v, s]).run P w = .ok (.slice A (n + m) c) w' ∧ w'.ownsRow base e size (.slice A (n + m) c) (n + m) (xs ++ ys) ∧ w.grownBy w' v.ownBlock ∧
      ((Value.slice A (n + m) c).ownBlock = v.ownBlock ∨ (Value.slice A (n + m) c).ownBlock = some w.heap.size) := by
  rcases hs.2 with ⟨rfl, rfl⟩ | ⟨g, cap, cur, rfl, _, _, _⟩
  · have hx : ys = [] := List.eq_nil_of_length_eq_zero (by simpa using hs.1)
    subst hx
    obtain ⟨A, c, rfl⟩ := own_form hown
    exact ⟨A, c, w, run_append_owned_none (P := P) w base t ty e i size ht hi _ n xs hown, by simpa using hown, World.grownBy.refl _ _, .inl rfl⟩
  · obtain ⟨v', w', hrun, h2, h3, _, h5⟩ := run_append_own_at (P := P) w base t ty e i z size bytes ht hi hz hsize hby hzs hsz v n xs hown ⟨g, 0, none⟩ m cap ys hs.1 (hs.cells rfl) h1 h63 hbytes hbase
    obtain ⟨A, c, rfl⟩ := own_form h2
    exact ⟨A, c, w', hrun, h2, h3, h5⟩

theorem wp_append_owned {w : World} {o : Oper} {a : Act} {K : Act → World → Prop} {Q : Exit → Act → World → Prop} (s x : Operand) (t : TypeId)
    (ho : o.op = .call { callee := .builtin .append, args := #[s, x], argTypes := #[t, t] })
    (base e : TypeId) (i : TypeInfo) (z : Value) (size bytes : Nat) (ht : P.underlying t = some (.slice e)) (hi : P.info? e = some i) (hz : i.zero = some z)
    (hsize : i.size = size) (hby : i.bytes = bytes) (hzs : z.cells.size = size) (hsz : 0 < size)
    (v : Value) (n : Nat) (xs : List Value) (hv : a.eval s = v) (hown : w.ownsRow base e size v n xs)
    (y : Value) (m base' e' : Nat) (ys : List Value) (hy : a.eval x = y) (hs : w.ownsRow base' e' size y m ys) (h1 : ∀ u ∈ ys, u.oneCell' = true)
    (h63 : n + m ≤ maxLen) (hbytes : (n + m) * bytes ≤ 140737488355328) (hbase : base ≤ w.heap.size)
    (h : ∀ A c w', w'.ownsRow base e size (.slice A (n + m) c) (n + m) (xs ++ ys) → w.grownBy w' v.ownBlock → ((Value.slice A (n + m) c).ownBlock = v.ownBlock ∨ (Value.slice A (n + m) c).ownBlock = some w.heap.size) → K (a.put o.dst (.slice A (n + m) c)) w') : o.wp P a w K Q := by
  obtain ⟨A, c, w', hr, h2, h3, h4⟩ := run_append_owned (P := P) w t o.type base e i z size bytes ht hi hz hsize hby hzs hsz v n xs hown y m base' e' ys hs h1 h63 hbytes hbase
  unfold Oper.wp execOp
  simp only [ho, resolve, invoke, builtin, Sem.run_bind, Sem.run_pure, Result.andThen_ok, List.map_toArray, List.map_cons, List.map_nil, hv, hy, hr]
  exact h A c w' h2 h3 h4

theorem wpList_append_owned {w : World} {ops : Array Oper} {rest : List Oper} {o : Oper} {a : Act} {Q : Exit → Act → World → Prop} (hgd : o.guard = none) (s x : Operand) (t : TypeId)
    (ho : o.op = .call { callee := .builtin .append, args := #[s, x], argTypes := #[t, t] })
    (base e : TypeId) (i : TypeInfo) (z : Value) (size bytes : Nat) (ht : P.underlying t = some (.slice e)) (hi : P.info? e = some i) (hz : i.zero = some z)
    (hsize : i.size = size) (hby : i.bytes = bytes) (hzs : z.cells.size = size) (hsz : 0 < size)
    (v : Value) (n : Nat) (xs : List Value) (hv : a.eval s = v) (hown : w.ownsRow base e size v n xs)
    (y : Value) (m base' e' : Nat) (ys : List Value) (hy : a.eval x = y) (hs : w.ownsRow base' e' size y m ys) (h1 : ∀ u ∈ ys, u.oneCell' = true)
    (h63 : n + m ≤ maxLen) (hbytes : (n + m) * bytes ≤ 140737488355328) (hbase : base ≤ w.heap.size)
    (h : ∀ A c w', w'.ownsRow base e size (.slice A (n + m) c) (n + m) (xs ++ ys) → w.grownBy w' v.ownBlock → ((Value.slice A (n + m) c).ownBlock = v.ownBlock ∨ (Value.slice A (n + m) c).ownBlock = some w.heap.size) → wpList P ops Q rest (a.put o.dst (.slice A (n + m) c)) w') : wpList P ops Q (o :: rest) a w :=
  wpList_plain hgd fun _ hK => wp_append_owned s x t ho base e i z size bytes ht hi hz hsize hby hzs hsz v n xs hv hown y m base' e' ys hy hs h1 h63 hbytes hbase fun A c w' h2 h3 h4 => hK _ _ (h A c w' h2 h3 h4)

theorem step_append_owned {w : World} {ops : Array Oper} {o : Oper} {a : Act} {K : Act → World → Prop} {Q : Exit → Act → World → Prop} {E : Prop} (hgd : o.guard = none) (s x : Operand) (t : TypeId)
    (ho : o.op = .call { callee := .builtin .append, args := #[s, x], argTypes := #[t, t] })
    (base e : TypeId) (i : TypeInfo) (z : Value) (size bytes : Nat) (ht : P.underlying t = some (.slice e)) (hi : P.info? e = some i) (hz : i.zero = some z)
    (hsize : i.size = size) (hby : i.bytes = bytes) (hzs : z.cells.size = size) (hsz : 0 < size)
    (v : Value) (n : Nat) (xs : List Value) (hv : a.eval s = v) (hown : w.ownsRow base e size v n xs)
    (y : Value) (m base' e' : Nat) (ys : List Value) (hy : a.eval x = y) (hs : w.ownsRow base' e' size y m ys) (h1 : ∀ u ∈ ys, u.oneCell' = true)
    (h63 : n + m ≤ maxLen) (hbytes : (n + m) * bytes ≤ 140737488355328) (hbase : base ≤ w.heap.size)
    (h : ∀ A c w', w'.ownsRow base e size (.slice A (n + m) c) (n + m) (xs ++ ys) → w.grownBy w' v.ownBlock → ((Value.slice A (n + m) c).ownBlock = v.ownBlock ∨ (Value.slice A (n + m) c).ownBlock = some w.heap.size) → K (a.put o.dst (.slice A (n + m) c)) w') :
    if Region.wanted o (yielded ops a.tmps) = true then Oper.wp P o a w K Q else E := by
  have hw : Region.wanted o (yielded ops a.tmps) = true := by simp [Region.wanted, hgd]
  rw [if_pos hw]
  exact wp_append_owned s x t ho base e i z size bytes ht hi hz hsize hby hzs hsz v n xs hv hown y m base' e' ys hy hs h1 h63 hbytes hbase h

theorem ownsRow_base {w : World} {base base' e sz n : Nat} {v : Value} {xs : List Value} (h : w.ownsRow base e sz v n xs) (hb : base' ≤ base) : w.ownsRow base' e sz v n xs := by
  refine ⟨h.1, ?_⟩
  rcases h.2 with h0 | ⟨g, cap, cur, hv, hg, r⟩
  · exact .inl h0
  · exact .inr ⟨g, cap, cur, hv, Nat.le_trans hb hg, r⟩

/-- append([]T{}, s...): a copy. -/
theorem run_append_clone (w : World) (t ty base e : TypeId) (i : TypeInfo) (z : Value) (size bytes : Nat) (ht : P.underlying t = some (.slice e)) (hi : P.info? e = some i) (hz : i.zero = some z)
    (hsize : i.size = size) (hby : i.bytes = bytes) (hzs : z.cells.size = size) (hsz : 0 < size)
    (g : Nat) (hown : w.ownsRow base e size (.slice (some ⟨g, 0, none⟩) 0 0) 0 [])
    (s : Value) (m base' e' : Nat) (ys : List Value) (hs : w.ownsRow base' e' size s m ys) (h1 : ∀ u ∈ ys, u.oneCell' = true)
    (h63 : m ≤ maxLen) (hbytes : m * bytes ≤ 140737488355328) (hbase : base ≤ w.heap.size) :
    ∃ A c w', (Builtin.append_ #[t, t] ty #[.slice (some ⟨g, 0, none⟩) 0 0, s]).run P w = .ok (.slice A m c) w' ∧ w'.ownsRow base e size (.slice A m c) m ys ∧ w.grownBy w' none := by
  rcases hs.2 with ⟨rfl, rfl⟩ | ⟨g', cap, cur, rfl, _, _, _⟩
  · have hx : ys = [] := List.eq_nil_of_length_eq_zero (by simpa using hs.1)
    subst hx
    exact ⟨_, _, w, run_append_owned_none (P := P) w base t ty e i size ht hi _ 0 [] hown, hown, World.grownBy.refl _ _⟩
  · rcases Nat.eq_zero_or_pos m with hm | hm
    · subst hm
      have hx : ys = [] := List.eq_nil_of_length_eq_zero (by simpa using hs.1)
      subst hx
      obtain ⟨hb, _⟩ := Blk.of_own hown
      have hr := run_append_room (P := P) w t ty e i ht hi g 0 0 #[] hb ⟨g', 0, none⟩ 0 cap [] (by simp) (by simp) (by simp) (by omega) (by simp)
      refine ⟨_, _, w, ?_, hown, World.grownBy.refl _ _⟩
      rw [hr]
      simp [setRow_self w g #[] e (0, 0) hb]
    · obtain ⟨v', w', hrun, h2, h3⟩ := run_append_arg_grows (P := P) w t ty e i z size bytes ht hi hz hsize hby hzs hsz ⟨g, 0, none⟩ 0 0 [] (by simp) (by simp) ⟨g', 0, none⟩ m cap ys hs.1 (hs.cells rfl) (by omega) (by omega) (by rw [Nat.zero_add]; exact hbytes)
      rw [Nat.zero_add] at h2
      obtain ⟨A, c, rfl⟩ := own_form h2
      exact ⟨A, c, w', hrun, ownsRow_base (by simpa using h2) hbase, h3⟩

theorem wpList_append_clone {w : World} {ops : Array Oper} {rest : List Oper} {o : Oper} {a : Act} {Q : Exit → Act → World → Prop} (hgd : o.guard = none) (s x : Operand) (t : TypeId)
    (ho : o.op = .call { callee := .builtin .append, args := #[s, x], argTypes := #[t, t] })
    (base e : TypeId) (i : TypeInfo) (z : Value) (size bytes : Nat) (ht : P.underlying t = some (.slice e)) (hi : P.info? e = some i) (hz : i.zero = some z)
    (hsize : i.size = size) (hby : i.bytes = bytes) (hzs : z.cells.size = size) (hsz : 0 < size)
    (g : Nat) (hv : a.eval s = .slice (some ⟨g, 0, none⟩) 0 0) (hown : w.ownsRow base e size (.slice (some ⟨g, 0, none⟩) 0 0) 0 [])
    (y : Value) (m base' e' : Nat) (ys : List Value) (hy : a.eval x = y) (hs : w.ownsRow base' e' size y m ys) (h1 : ∀ u ∈ ys, u.oneCell' = true)
    (h63 : m ≤ maxLen) (hbytes : m * bytes ≤ 140737488355328) (hbase : base ≤ w.heap.size)
    (h : ∀ A c w', w'.ownsRow base e size (.slice A m c) m ys → w.grownBy w' none → wpList P ops Q rest (a.put o.dst (.slice A m c)) w') : wpList P ops Q (o :: rest) a w := by
  refine wpList_plain hgd fun K hK => ?_
  obtain ⟨A, c, w', hr, h2, h3⟩ := run_append_clone (P := P) w t o.type base e i z size bytes ht hi hz hsize hby hzs hsz g hown y m base' e' ys hs h1 h63 hbytes hbase
  unfold Oper.wp execOp
  simp only [ho, resolve, invoke, builtin, Sem.run_bind, Sem.run_pure, Result.andThen_ok, List.map_toArray, List.map_cons, List.map_nil, hv, hy, hr]
  exact hK _ _ (h A c w' h2 h3)

/-- The same from a slice of which it is known how it reads. -/
theorem run_append_clone_rd (w : World) (t ty base e : TypeId) (i : TypeInfo) (z : Value) (size bytes : Nat) (ht : P.underlying t = some (.slice e)) (hi : P.info? e = some i) (hz : i.zero = some z)
    (hsize : i.size = size) (hby : i.bytes = bytes) (hzs : z.cells.size = size) (hsz : 0 < size)
    (g : Nat) (hown : w.ownsRow base e size (.slice (some ⟨g, 0, none⟩) 0 0) 0 [])
    (A : Option Addr) (m c b o : Nat) (ys : List Value) (hA : A = none → c = 0) (hr : Rd w b o A ys) (hl : ys.length = m * size) (h1 : ∀ u ∈ ys, u.oneCell' = true)
    (h63 : m ≤ maxLen) (hbytes : m * bytes ≤ 140737488355328) (hbase : base ≤ w.heap.size) :
    ∃ A' c' w', (Builtin.append_ #[t, t] ty #[.slice (some ⟨g, 0, none⟩) 0 0, .slice A m c]).run P w = .ok (.slice A' m c') w' ∧ w'.ownsRow base e size (.slice A' m c') m ys ∧ w.grownBy w' none := by
  rcases Nat.eq_zero_or_pos m with hm | hm
  · subst hm
    have hx : ys = [] := List.eq_nil_of_length_eq_zero (by simpa using hl)
    subst hx
    rcases A with _ | ad
    · obtain rfl := hA rfl
      exact ⟨_, _, w, run_append_owned_none (P := P) w base t ty e i size ht hi _ 0 [] hown, hown, World.grownBy.refl _ _⟩
    · obtain ⟨hb, _⟩ := Blk.of_own hown
      have hr := run_append_room (P := P) w t ty e i ht hi g 0 0 #[] hb ad 0 c [] (by simp) (by simp) (by simp) (by omega) (by simp)
      refine ⟨_, _, w, ?_, hown, World.grownBy.refl _ _⟩
      rw [hr]
      simp [setRow_self w g #[] e (0, 0) hb]
  · have hne : ys ≠ [] := by
      intro e0
      subst e0
      have := Nat.mul_pos hm hsz
      simp at hl
      omega
    obtain ⟨x, l, hx⟩ := List.exists_cons_of_ne_nil hne
    obtain ⟨rfl, _⟩ := hr 0 x (by rw [hx]; rfl)
    obtain ⟨v', w', hrun, h2, h3⟩ := run_append_arg_grows (P := P) w t ty e i z size bytes ht hi hz hsize hby hzs hsz ⟨g, 0, none⟩ 0 0 [] (by simp) (by simp) ⟨b, o, none⟩ m c ys hl
      (fun j u hj => by have := (hr j u hj).2; rw [← this]; unfold Addr.add; split <;> simp_all) (by omega) (by omega) (by rw [Nat.zero_add]; exact hbytes)
    rw [Nat.zero_add] at h2
    obtain ⟨A', c', rfl⟩ := own_form h2
    exact ⟨A', c', w', hrun, ownsRow_base (by simpa using h2) hbase, h3⟩

theorem wpList_append_clone_rd {w : World} {ops : Array Oper} {rest : List Oper} {o : Oper} {a : Act} {Q : Exit → Act → World → Prop} (hgd : o.guard = none) (s x : Operand) (t : TypeId)
    (ho : o.op = .call { callee := .builtin .append, args := #[s, x], argTypes := #[t, t] })
    (base e : TypeId) (i : TypeInfo) (z : Value) (size bytes : Nat) (ht : P.underlying t = some (.slice e)) (hi : P.info? e = some i) (hz : i.zero = some z)
    (hsize : i.size = size) (hby : i.bytes = bytes) (hzs : z.cells.size = size) (hsz : 0 < size)
    (g : Nat) (hv : a.eval s = .slice (some ⟨g, 0, none⟩) 0 0) (hown : w.ownsRow base e size (.slice (some ⟨g, 0, none⟩) 0 0) 0 [])
    (A : Option Addr) (m c b off : Nat) (ys : List Value) (hy : a.eval x = .slice A m c) (hA : A = none → c = 0) (hr : Rd w b off A ys) (hl : ys.length = m * size) (h1 : ∀ u ∈ ys, u.oneCell' = true)
    (h63 : m ≤ maxLen) (hbytes : m * bytes ≤ 140737488355328) (hbase : base ≤ w.heap.size)
    (h : ∀ A c w', w'.ownsRow base e size (.slice A m c) m ys → w.grownBy w' none → wpList P ops Q rest (a.put o.dst (.slice A m c)) w') : wpList P ops Q (o :: rest) a w := by
  refine wpList_plain hgd fun K hK => ?_
  obtain ⟨A', c', w', hrun, h2, h3⟩ := run_append_clone_rd (P := P) w t o.type base e i z size bytes ht hi hz hsize hby hzs hsz g hown A m c b off ys hA hr hl h1 h63 hbytes hbase
  unfold Oper.wp execOp
  simp only [ho, resolve, invoke, builtin, Sem.run_bind, Sem.run_pure, Result.andThen_ok, List.map_toArray, List.map_cons, List.map_nil, hv, hy, hrun]
  exact hK _ _ (h A' c' w' h2 h3)
end
end Go.Proofs.YtpaiejeipghehaaGreat
end
section
/- The rule of XRel once more, where how much was drawn is told too: each operation but the last ones makes new memory at most, and its value is known up to a relation that new memory leaves alone: then one walk in the order of the text serves every order. No condition. -/
namespace Go.Proofs.YtpaiejeipghehaaGreat.Gw
open Go.RowKit Go.Sort

/-- w' is w after some draws, with some blocks laid behind it. -/
def Gr (w w' : World) : Prop := ∃ (q : Nat) (os : Array Obj), w' = grow (w.drewN q) os
theorem Gr.refl (w : World) : Gr w w := ⟨0, #[], by simp [grow, World.drewN]⟩
theorem Gr.trans {a b c : World} (h : Gr a b) (k : Gr b c) : Gr a c := by
  obtain ⟨q, os, rfl⟩ := h
  obtain ⟨r, os', rfl⟩ := k
  exact ⟨q + r, os ++ os', by simp [grow, World.drewN, Array.append_assoc, Nat.add_assoc]⟩
theorem Gr.drewN {a w : World} (h : Gr a w) (n : Nat) : Gr a (w.drewN n) := h.trans ⟨n, #[], by simp [grow, World.drewN]⟩
theorem Gr.drew {a w : World} (h : Gr a w) : Gr a w.drew := h.drewN 1
theorem Gr.alloc {a w : World} (h : Gr a w) (o : Obj) : Gr a (w.alloc o) := h.trans ⟨0, #[o], by simp only [grow, World.drewN, World.alloc, Nat.add_zero]; congr 1⟩
theorem Gr.mod {a w : World} (h : Gr a w) : Mod [] a w := by
  obtain ⟨q, os, rfl⟩ := h
  exact ⟨rfl, rfl, rfl, by simp [grow, World.drewN], fun k hk _ => by simp [grow, World.drewN, Array.getElem?_append_left hk]⟩

/-- What is known of a value, and stays known when new memory is made. -/
structure Stab where
  R : Value → World → Prop
  st : ∀ v w1 w2, R v w1 → Gr w1 w2 → R v w2
def Stab.top : Stab := ⟨fun _ _ => True, fun _ _ _ _ _ => trivial⟩
def Stab.det (e : Value) : Stab := ⟨fun v _ => v = e, fun _ _ _ h _ => h⟩

section
variable {P : Program} {ops : Array Oper} {Q : Exit → Act → World → Prop}

/-- What is asked of a call. -/
def relPost (w : World) (r : Stab) (e : Ending) (w3 : World) : Prop := ∃ v, e = .returned v ∧ Gr w w3 ∧ r.R v w3
theorem relPost_det {w w3 : World} {v : Value} (h : Gr w w3) : relPost w (Stab.det v) (.returned v) w3 := ⟨v, rfl, h, rfl⟩
theorem relPost_by {w w3 : World} {r : Stab} {v : Value} (h : Gr w w3) (hr : r.R v w3) : relPost w r (.returned v) w3 := ⟨v, rfl, h, hr⟩

def relUpon (P : Program) (w : World) (r : Stab) : Result Next → Prop
  | .ok (.value v) w2 => Gr w w2 ∧ r.R v w2
  | .ok .skip w2 => Gr w w2 ∧ r.R undef w2
  | .ok (.enter f args) w2 => Calls P f args w2 (relPost w r)
  | _ => False

def relAt (P : Program) (ops : Array Oper) (o : Oper) (a : Act) (w : World) (r : Stab) : Prop :=
  if Region.wanted o (yielded ops a.tmps) = true then relUpon P w r ((execOp a.eval o).run P w) else r.R undef w

def dstOf (ops : Array Oper) (j : Nat) : Option Tmp := (ops[j]?).bind (·.dst)

/-- The values of earlier operations laid into the frame. -/
def withDeps (Rs : List Stab) (w : World) : List (Nat × Tmp) → Act → (Act → Prop) → Prop
  | [], a, F => F a
  | p :: ds, a, F => ∀ v, (Rs.getD p.1 Stab.top).R v w → withDeps Rs w ds (a.put (some p.2) v) F

/-- One operation after the other, in the order of the text ('none': a bare copy of a variable, taken ahead of all). -/
def relWalk (P : Program) (ops : Array Oper) (w : World) (a : Act) : List Oper → List (Option (List (Nat × Tmp))) → List Stab → (List Stab → Prop) → Prop
  | o :: l, some d :: ds, Rs, F => ∃ r : Stab, (∀ w', Gr w w' → withDeps Rs w' d a fun a' => relAt P ops o a' w' r) ∧ relWalk P ops w a l ds (Rs ++ [r]) F
  | _ :: l, none :: ds, Rs, F => relWalk P ops w a l ds (Rs ++ [Stab.top]) F
  | _, [], Rs, F => F Rs
  | [], _ :: _, _, _ => False

def isPre (ds : List (Option (List (Nat × Tmp)))) (i : Nat) : Bool := match ds[i]? with | some none => true | _ => false

def sinkP (ops : Array Oper) (n : Nat) (ds : List (Option (List (Nat × Tmp)))) : Bool :=
  (List.range n).all fun i => isPre ds i || (List.range (n + 1)).any fun j => decide (i < j) && Region.waitsFor .any ops j i

/-- The bare copies, one behind the other. -/
def preB (ops : Array Oper) : List Nat → Array Bool → Bool
  | [], _ => true
  | i :: is, listed => (match ops[i]? with
    | some o => (match o.op with | .move _ => true | _ => false) && decide (o.guard = none)
    | none => false) && (Region.ready .any ops listed).contains i && Region.free .any ops listed i && preB ops is (listed.setIfInBounds i true)

def preAct (ops : Array Oper) : List Nat → Act → Act
  | [], a => a
  | i :: is, a => preAct ops is (match ops[i]? with
    | some o => (match o.op with | .move x => a.put o.dst (a.eval x) | _ => a)
    | none => a)

def pres (ds : List (Option (List (Nat × Tmp)))) : List Nat := (List.range ds.length).filter (isPre ds)

def relB (ops : Array Oper) (ds : List (Option (List (Nat × Tmp)))) (hs : List (Nat × Tmp)) (size : Nat) : Bool :=
  let n := ds.length
  Region.noSelect ops && decide (n ≤ ops.size) && (decide (n = ops.size) || (sinkP ops n ds && Region.chainB .any ops n)) &&
  preB ops (pres ds) (Array.replicate ops.size false) &&
  decide (hs = (List.range n).filterMap fun j => if isPre ds j then none else (dstOf ops j).map fun d => (j, d)) &&
  hs.all (fun p => decide (p.2 < size)) &&
  ((List.range n).all fun i => match ops[i]?, ds[i]? with
    | some o, some d =>
      (o.after.all fun e => !Region.binds .any e || decide (e.on < i)) &&
      ((d.getD []).all fun p => decide (p.1 < i) && decide (dstOf ops p.1 = some p.2) && Region.waitsFor .any ops i p.1 && !isPre ds p.1) &&
      ((o.looksAt ops).all fun t => (d.getD []).any (fun p => p.2 == t) || (List.range n).all fun j => isPre ds j || decide (dstOf ops j ≠ some t)) &&
      ((List.range n).all fun j => decide (j = i) || decide (dstOf ops i = none) || decide (dstOf ops j ≠ dstOf ops i))
    | _, _ => false) &&
  Region.seqB .any ops (ops.size - n) n ((Array.range ops.size).map fun i => decide (i < n))

theorem withDeps_elim {Rs : List Stab} {w : World} {a : Act} {F : Act → Prop} : ∀ (ds : List (Nat × Tmp)) (b : Act), withDeps Rs w ds b F →
    (∀ p ∈ ds, ∃ v, a.tmps[p.2]? = some v ∧ (Rs.getD p.1 Stab.top).R v w) → a.tmps.size = b.tmps.size →
    ∃ b', F b' ∧ b'.defers = b.defers ∧ b'.tmps.size = b.tmps.size ∧ (∀ p ∈ ds, b'.tmps[p.2]? = a.tmps[p.2]?) ∧ (∀ t, (∀ p ∈ ds, p.2 ≠ t) → b'.tmps[t]? = b.tmps[t]?)
  | [], b, h, _, _ => ⟨b, h, rfl, rfl, (fun p hp => by cases hp), fun _ _ => rfl⟩
  | p :: ds, b, h, hv, hs => by
    obtain ⟨v, hv1, hv2⟩ := hv p (List.mem_cons_self ..)
    have hlt : p.2 < b.tmps.size := by
      rw [← hs]
      exact (Array.getElem?_eq_some_iff.1 hv1).1
    obtain ⟨b', hF, h1, h2, h3, h4⟩ := withDeps_elim ds (b.put (some p.2) v) (h v hv2) (fun q hq => hv q (List.mem_cons_of_mem _ hq)) (by simpa [Act.put] using hs)
    refine ⟨b', hF, by simpa [Act.put] using h1, by simpa [Act.put] using h2, fun q hq => ?_, fun t ht => ?_⟩
    · by_cases hin : q ∈ ds
      · exact h3 q hin
      · obtain rfl : q = p := (List.mem_cons.1 hq).resolve_right hin
        by_cases hx : ∃ r ∈ ds, r.2 = q.2
        · obtain ⟨r, hr, he⟩ := hx
          rw [← he]
          exact h3 r hr
        · rw [h4 q.2 (fun r hr he => hx ⟨r, hr, he⟩), hv1]
          simp [Act.put, hlt]
    · rw [h4 t (fun r hr => ht r (List.mem_cons_of_mem _ hr))]
      simp [Act.put, Array.getElem?_setIfInBounds_ne (ht p (List.mem_cons_self ..))]

/-- What the walk has laid down. -/
theorem relWalk_elim {w : World} {a : Act} {F : List Stab → Prop} : ∀ (l : List Oper) (ds : List (Option (List (Nat × Tmp)))) (Rs : List Stab), relWalk P ops w a l ds Rs F →
    ∃ Rs', F Rs' ∧ (∀ j, j < Rs.length → Rs'[j]? = Rs[j]?) ∧ ∀ i o d, l[i]? = some o → ds[i]? = some (some d) → (∀ q ∈ d, q.1 < Rs.length + i) → ∃ r, Rs'[Rs.length + i]? = some r ∧ ∀ w', Gr w w' → withDeps Rs' w' d a fun a' => relAt P ops o a' w' r
  | l, [], Rs, h => ⟨Rs, by cases l <;> exact h, fun _ _ => rfl, (fun i o d _ hd => by simp at hd)⟩
  | [], _ :: _, Rs, h => h.elim
  | o :: rest, none :: ds, Rs, h => by
    obtain ⟨Rs', hF, ha, hb⟩ := relWalk_elim rest ds (Rs ++ [Stab.top]) h
    have hpre : ∀ j, j < Rs.length → Rs'[j]? = Rs[j]? := fun j hj => by
      rw [ha j (by simp; omega), List.getElem?_append_left hj]
    refine ⟨Rs', hF, hpre, fun i q d hq hd hlt => ?_⟩
    cases i with
    | zero => simp at hd
    | succ i =>
      obtain ⟨r', h3, h4⟩ := hb i q d (by simpa using hq) (by simpa using hd) (fun x hx => by have := hlt x hx; simp; omega)
      refine ⟨r', ?_, h4⟩
      rw [← h3]
      congr 1
      simp
      omega
  | o :: rest, some d0 :: ds, Rs, h => by
    obtain ⟨r, h1, h2⟩ := h
    obtain ⟨Rs', hF, ha, hb⟩ := relWalk_elim rest ds (Rs ++ [r]) h2
    have hpre : ∀ j, j < Rs.length → Rs'[j]? = Rs[j]? := fun j hj => by
      rw [ha j (by simp; omega), List.getElem?_append_left hj]
    refine ⟨Rs', hF, hpre, fun i q d hq hd hlt => ?_⟩
    cases i with
    | zero =>
      simp only [List.getElem?_cons_zero, Option.some.injEq] at hq hd
      subst hq
      subst hd
      refine ⟨r, by rw [Nat.add_zero, ha _ (by simp)]; simp, fun w' hw' => ?_⟩
      have h3 := h1 w' hw'
      have hcong : ∀ (ds : List (Nat × Tmp)) (b : Act) (G : Act → Prop), (∀ q ∈ ds, q.1 < Rs.length) → withDeps Rs w' ds b G → withDeps Rs' w' ds b G := by
        intro ds
        induction ds with
        | nil => exact fun _ _ _ h => h
        | cons d ds ih =>
          intro b G hd hh v hv
          refine ih _ _ (fun q hq => hd q (List.mem_cons_of_mem _ hq)) (hh v ?_)
          have he := hpre d.1 (hd d (List.mem_cons_self ..))
          simp only [List.getD_eq_getElem?_getD, he] at hv ⊢
          exact hv
      exact hcong _ _ _ (fun q hq => by have := hlt q hq; omega) h3
    | succ i =>
      obtain ⟨r', h3, h4⟩ := hb i q d (by simpa using hq) (by simpa using hd) (fun x hx => by have := hlt x hx; simp; omega)
      refine ⟨r', ?_, h4⟩
      rw [← h3]
      congr 1
      simp
      omega

structure RInv (ops : Array Oper) (ds : List (Option (List (Nat × Tmp)))) (n : Nat) (Rs : List Stab) (w0 : World) (a0 : Act) (listed : Array Bool) (a : Act) (w : World) : Prop where
  head : HeadInv .any ops n listed
  pre : ∀ i, isPre ds i = true → i < n → listed.getD i false = true
  mod : Gr w0 w
  defers : a.defers = a0.defers
  size : a.tmps.size = a0.tmps.size
  done : ∀ j d, j < n → isPre ds j = false → listed.getD j false = true → dstOf ops j = some d → ∃ v, a.tmps[d]? = some v ∧ (Rs.getD j Stab.top).R v w
  rest : ∀ t, (∀ j, j < n → isPre ds j = false → listed.getD j false = true → dstOf ops j ≠ some t) → a.tmps[t]? = a0.tmps[t]?

theorem filter_less {l : List Nat} {p q : Nat → Bool} {i : Nat} (hn : l.Nodup) (hi : i ∈ l) (hp : p i = true) (hq : q i = false) (h : ∀ j, j ≠ i → q j = p j) : (l.filter p).length = (l.filter q).length + 1 := by
  induction l with
  | nil => cases hi
  | cons x l ih =>
    rw [List.nodup_cons] at hn
    by_cases hx : x = i
    · subst hx
      have : l.filter q = l.filter p := List.filter_congr fun j hj => h j (fun e => hn.1 (e ▸ hj))
      rw [List.filter_cons_of_pos hp, List.filter_cons_of_neg (by simp [hq]), this]
      simp
    · have hi' : i ∈ l := (List.mem_cons.1 hi).resolve_left (fun e => hx e.symm)
      have := ih hn.2 hi'
      cases hpx : p x with
      | true => rw [List.filter_cons_of_pos hpx, List.filter_cons_of_pos (by rw [h x hx]; exact hpx)]; simp [this]
      | false => rw [List.filter_cons_of_neg (by simp [hpx]), List.filter_cons_of_neg (by rw [h x hx]; simp [hpx])]; exact this

theorem wanted_same {o : Oper} {a b : Act} (h : ∀ t ∈ o.looksAt ops, a.tmps[t]? = b.tmps[t]?) : Region.wanted o (yielded ops a.tmps) = Region.wanted o (yielded ops b.tmps) := by
  unfold Region.wanted
  cases hg : o.guard with
  | none => rfl
  | some gw =>
    obtain ⟨g, want⟩ := gw
    have hy : yielded ops a.tmps g = yielded ops b.tmps g := by
      unfold yielded
      cases ht : (ops[g]?).bind (·.dst) with
      | none => rfl
      | some t => simp [h t (by simp [Oper.looksAt, hg, ht])]
    simp only [hy]

theorem exec_same {o : Oper} {a b : Act} (hs : ∀ cs b, o.op ≠ .select cs b) (h : ∀ t ∈ o.looksAt ops, a.tmps[t]? = b.tmps[t]?) : execOp a.eval o = execOp b.eval o :=
  execOp_congr o hs fun x hx => by
    cases x with
    | tmp t =>
      have := h t (List.mem_append_left _ (List.mem_filterMap.2 ⟨.tmp t, by simpa using hx, rfl⟩))
      simp only [Act.eval, Array.getD_eq_getD_getElem?, this]
    | _ => rfl

theorem wp_of_relUpon {o : Oper} {a : Act} {w : World} {r : Stab} {K : Act → World → Prop} (h : relUpon P w r ((execOp a.eval o).run P w)) (hK : ∀ v w2, Gr w w2 → r.R v w2 → K (a.put o.dst v) w2) : o.wp P a w K Q := by
  unfold Oper.wp
  generalize (execOp a.eval o).run P w = res at *
  cases res with
  | ok x w2 =>
    cases x <;> simp only [relUpon] at h <;> simp only [Oper.upon]
    case value v => exact hK _ _ h.1 h.2
    case skip => exact hK _ _ h.1 h.2
    case enter f args => exact h.mono fun e w3 ⟨v, he, hm, hr⟩ => by subst he; exact hK _ _ hm hr
  | halt x w2 => simp only [relUpon] at h

theorem sinkP_waits {n : Nat} {ds : List (Option (List (Nat × Tmp)))} {listed : Array Bool} (hs : sinkP ops n ds = true) (hc : Region.chainB .any ops n = true) (hn : n < ops.size) (inv : HeadInv .any ops n listed) (hp : ∀ i, isPre ds i = true → i < n → listed.getD i false = true) :
    ∀ (d i : Nat), n - i = d → i < n → listed.getD i true = false → ∀ t, n ≤ t → t ∉ Region.ready .any ops listed := by
  intro d
  induction d using Nat.strongRecOn with
  | _ d ih =>
    intro i hd hi hun t ht hr
    obtain ⟨_, ot, hot, hall⟩ := mem_ready.1 hr
    have htlt : t < ops.size := (Array.getElem?_eq_some_iff.1 hot).1
    by_cases htn : t = n
    · subst htn
      have h1 := List.all_eq_true.1 hs i (List.mem_range.2 hi)
      rw [Bool.or_eq_true] at h1
      rcases h1 with h1 | h1
      · have := hp i h1 hi
        rw [getD_both hun] at this
        cases this
      obtain ⟨j, hj, hj2⟩ := List.any_eq_true.1 h1
      simp only [Bool.and_eq_true, decide_eq_true_eq] at hj2
      obtain ⟨oj, hoj, e, he, hb, hon⟩ := Region.waitsFor_spec hj2.2
      have hjle : j ≤ t := by have := List.mem_range.1 hj; omega
      by_cases hjt : j = t
      · subst hjt
        have : oj = ot := Option.some.inj (hoj.symm.trans hot)
        subst this
        have h2 := hall e he hb
        rw [hon, getD_both hun] at h2
        cases h2
      · cases hl : listed.getD j false with
        | true =>
          have h2 := inv.closed j oj hoj hl e he hb
          rw [hon, getD_both hun] at h2
          cases h2
        | false =>
          have hjs : j < listed.size := by rw [inv.size]; omega
          exact ih (t - j) (by omega) j rfl (by omega) (getD_in hjs hl) t (Nat.le_refl _) hr
    · have h1 := List.all_eq_true.1 hc t (List.mem_range.2 htlt)
      simp only [Bool.or_eq_true, decide_eq_true_eq] at h1
      rcases h1 with h1 | h1
      · omega
      · obtain ⟨o', ho', e, he, hb, hon⟩ := Region.waitsFor_spec h1
        have : o' = ot := Option.some.inj (ho'.symm.trans hot)
        subst this
        have h2 := hall e he hb
        rw [hon, getD_both (inv.tail (t - 1) (by omega) (by omega))] at h2
        cases h2

theorem pre_first {Q : Exit → Act → World → Prop} (hQ : ∀ c a w, ¬ Q (.panic c) a w) (hsel : Region.noSelect ops = true) : ∀ (is : List Nat) (listed : Array Bool) (a : Act) (w : World) (fuel : Nat), preB ops is listed = true →
    wpAny P .any ops Q fuel (is.foldl (fun l i => l.setIfInBounds i true) listed) (preAct ops is a) w → wpAny P .any ops Q (fuel + is.length) listed a w
  | [], _, _, _, _, _, h => h
  | i :: is, listed, a, w, fuel, hB, h => by
    simp only [preB, Bool.and_eq_true] at hB
    obtain ⟨⟨⟨hmv, hr⟩, hf⟩, hB'⟩ := hB
    cases ho : ops[i]? with
    | none => rw [ho] at hmv; cases hmv
    | some o =>
      rw [ho] at hmv
      simp only [Bool.and_eq_true, decide_eq_true_eq] at hmv
      obtain ⟨hmv, hg⟩ := hmv
      cases hop : o.op with
      | move x =>
        simp only [preAct, ho, hop] at h
        have h1 := pre_first hQ hsel is _ _ w fuel hB' h
        have := wpAny_first (v := a.eval x) ho (Region.noSelect_spec hsel) (fun c a w hq => absurd hq (hQ c _ w)) (fuel + is.length) listed a w (Region.free_spec ho hf) (by simpa using hr)
          (.inl ⟨by simp [Region.wanted, hg], fun w => by simp [execOp, hop]⟩) h1
        exact this
      | _ => rw [hop] at hmv; cases hmv

theorem foldl_set {is : List Nat} {listed : Array Bool} : (is.foldl (fun l i => l.setIfInBounds i true) listed).size = listed.size ∧
    ∀ j d, (is.foldl (fun l i => l.setIfInBounds i true) listed).getD j d = if j ∈ is ∧ j < listed.size then true else listed.getD j d := by
  induction is generalizing listed with
  | nil => exact ⟨rfl, fun j d => by simp⟩
  | cons i is ih =>
    obtain ⟨h1, h2⟩ := ih (listed := listed.setIfInBounds i true)
    refine ⟨by simpa using h1, fun j d => ?_⟩
    rw [List.foldl_cons, h2]
    simp only [Array.size_setIfInBounds, List.mem_cons]
    by_cases hj : j = i
    · subst hj
      by_cases hlt : j < listed.size
      · simp [hlt]
      · simp [hlt]
    · rw [getD_set_ne d (Ne.symm hj)]
      simp [hj]

theorem put_same (a : Act) (d : Option Tmp) (v : Value) : (a.put d v).defers = a.defers ∧ (a.put d v).tmps.size = a.tmps.size := by cases d <;> simp [Act.put]
theorem preAct_same : ∀ (is : List Nat) (a : Act), (preAct ops is a).defers = a.defers ∧ (preAct ops is a).tmps.size = a.tmps.size
  | [], _ => ⟨rfl, rfl⟩
  | i :: is, a => by
    cases ho : ops[i]? with
    | none => simp only [preAct, ho]; exact preAct_same is a
    | some o =>
      cases hop : o.op with
      | move x =>
        simp only [preAct, ho, hop]
        obtain ⟨h1, h2⟩ := preAct_same is (a.put o.dst (a.eval x))
        exact ⟨h1.trans (put_same _ _ _).1, h2.trans (put_same _ _ _).2⟩
      | _ => simp only [preAct, ho, hop]; exact preAct_same is a

theorem wp_region_rel_of {id : Nat} {l : List Oper} {ds : List (Option (List (Nat × Tmp)))} {hs : List (Nat × Tmp)} {Rs : List Stab} (hm : P.follows .mixedOrders = true) (hQ : ∀ c a w, ¬ Q (.panic c) a w) {a0 : Act} {w : World}
    (hB : relB l.toArray ds hs a0.tmps.size = true)
    (hobs : ∀ i o d, l[i]? = some o → ds[i]? = some (some d) → ∀ w', Gr w w' → withDeps Rs w' d (preAct l.toArray (pres ds) a0) fun a' => relAt P l.toArray o a' w' (Rs.getD i Stab.top))
    (htail : ∀ w', Gr w w' → withDeps Rs w' hs (preAct l.toArray (pres ds) a0) fun a' => wpList P l.toArray Q (l.drop ds.length) a' w') : (Code.region id l.toArray true).wp P Q a0 w := by
  obtain ⟨n, hnd⟩ : ∃ n, n = ds.length := ⟨_, rfl⟩
  simp only [relB, ← hnd, Bool.and_eq_true, Bool.or_eq_true, decide_eq_true_eq] at hB
  obtain ⟨⟨⟨⟨⟨⟨⟨hsel, hn⟩, htl⟩, hpreB⟩, hhs⟩, hsz⟩, hops⟩, hseq⟩ := hB
  rw [← hnd] at htail
  have hsel' := Region.noSelect_spec hsel
  refine wp_region_any hm ?_
  obtain ⟨a, ha⟩ : ∃ a, a = preAct l.toArray (pres ds) a0 := ⟨_, rfl⟩
  have has := preAct_same (ops := l.toArray) (pres ds) a0
  rw [← ha] at hobs htail has
  -- a tail operation waits for all of the head
  have hwait : ∀ {listed : Array Bool}, HeadInv .any l.toArray n listed → (∀ i, isPre ds i = true → i < n → listed.getD i false = true) → ∀ i, i < n → listed.getD i true = false → ∀ t, n ≤ t → t ∉ Region.ready .any l.toArray listed := by
    intro listed inv hp i hi hun t ht hr
    have htlt : t < l.toArray.size := by obtain ⟨_, o, ho, _⟩ := mem_ready.1 hr; exact (Array.getElem?_eq_some_iff.1 ho).1
    rcases htl with htl | ⟨hs1, hc1⟩
    · omega
    · rcases Nat.lt_or_ge n l.toArray.size with hlt | hge
      · exact sinkP_waits hs1 hc1 hlt inv hp _ i rfl hi hun t ht hr
      · omega
  have main : ∀ (m : Nat) (listed : Array Bool) (b : Act) (w' : World), RInv l.toArray ds n Rs w a listed b w' →
      ((List.range n).filter fun i => !listed.getD i false).length = m → wpAny P .any l.toArray Q (m + (l.toArray.size - n)) listed b w' := by
    intro m
    induction m with
    | zero =>
      intro listed b w' inv hc
      have hall : ∀ i, i < n → listed.getD i false = true := by
        intro i hi
        have h0 := List.eq_nil_of_length_eq_zero hc
        rw [List.filter_eq_nil_iff] at h0
        simpa using h0 i (List.mem_range.2 hi)
      have hl : listed = (Array.range l.toArray.size).map fun i => decide (i < n) := by
        apply Array.ext_getElem?
        intro i
        rcases Nat.lt_or_ge i l.toArray.size with hi | hi
        · have hil : i < listed.size := by rw [inv.head.size]; exact hi
          rw [Array.getElem?_eq_getElem hil]
          simp only [Array.getElem?_map, Array.getElem?_range, hi, if_true, Option.map_some]
          congr 1
          rcases Nat.lt_or_ge i n with h1 | h1
          · have := hall i h1
            simpa [h1, hil] using this
          · have := inv.head.tail i h1 hi
            have h2 : ¬ i < n := by omega
            simpa [h2, hil] using this
        · rw [Array.getElem?_eq_none (by rw [inv.head.size]; exact hi), Array.getElem?_eq_none (by simpa using hi)]
      rw [← hl] at hseq
      have ht := htail w' inv.mod
      obtain ⟨b', hF, h1, h2, h3, h4⟩ := withDeps_elim (a := b) hs a ht (fun p hp => by
        rw [hhs, List.mem_filterMap] at hp
        obtain ⟨j, hj, he⟩ := hp
        cases hpr : isPre ds j with
        | true => simp [hpr] at he
        | false =>
          cases hd : dstOf l.toArray j with
          | none => simp [hpr, hd] at he
          | some d =>
            simp only [hpr, hd, Bool.false_eq_true, if_false, Option.map_some, Option.some.injEq] at he
            subst he
            exact inv.done j d (List.mem_range.1 hj) hpr (hall j (List.mem_range.1 hj)) hd) inv.size
      have hbb : b' = b := by
        obtain ⟨bt, bd⟩ := b
        obtain ⟨bt', bd'⟩ := b'
        have e1 : bd' = bd := h1.trans inv.defers.symm
        have e2 : bt' = bt := by
          apply Array.ext_getElem?
          intro t
          by_cases hx : ∃ p ∈ hs, p.2 = t
          · obtain ⟨p, hp, he⟩ := hx
            rw [← he]
            exact h3 p hp
          · refine (h4 t (fun p hp he => hx ⟨p, hp, he⟩)).trans (inv.rest t (fun j hj hpr _ hd => hx ⟨(j, t), ?_, rfl⟩)).symm
            rw [hhs, List.mem_filterMap]
            exact ⟨j, List.mem_range.2 hj, by rw [hd, hpr]; rfl⟩
        rw [e1, e2]
      subst hbb
      have := wpAny_of_seq (Q' := Q) (l.drop n) n listed b' w' (fun j => by simp) (by simpa using hseq) hF
      simpa using this
    | succ m ih =>
      intro listed b w' inv hc
      have hsome : ∃ i, i < n ∧ listed.getD i false = false ∧ ∀ j, j < i → listed.getD j false = true := by
        have hex : ∃ i, i < n ∧ listed.getD i false = false := by
          have hne : (List.range n).filter (fun i => !listed.getD i false) ≠ [] := by
            intro e
            rw [e] at hc
            cases hc
          obtain ⟨i, hi⟩ := List.exists_mem_of_ne_nil _ hne
          rw [List.mem_filter] at hi
          exact ⟨i, List.mem_range.1 hi.1, by simpa using hi.2⟩
        obtain ⟨i, hi, hl⟩ := hex
        induction i using Nat.strongRecOn with
        | _ i ihi =>
          by_cases hx : ∃ j, j < i ∧ listed.getD j false = false
          · obtain ⟨j, hj, hjl⟩ := hx
            exact ihi j hj (by omega) hjl
          · refine ⟨i, hi, hl, fun j hj => ?_⟩
            cases h : listed.getD j false with
            | true => rfl
            | false => exact absurd ⟨j, hj, h⟩ hx
      obtain ⟨k, hk, hkl, hkm⟩ := hsome
      have getT : ∀ i, i < n → listed.getD i false = false → listed.getD i true = false := fun i hi h => getD_in (by rw [inv.head.size]; omega) h
      have hkr : k ∈ Region.ready .any l.toArray listed := by
        have h1 := List.all_eq_true.1 hops k (List.mem_range.2 hk)
        cases hok : l.toArray[k]? with
        | none => rw [hok] at h1; cases h1
        | some o =>
          cases hdk : ds[k]? with
          | none => rw [hok, hdk] at h1; cases h1
          | some dk =>
            rw [hok, hdk] at h1
            simp only [Bool.and_eq_true] at h1
            refine mem_ready.2 ⟨getT k hk hkl, o, hok, fun e he hb => ?_⟩
            have h2 := Array.all_eq_true'.1 h1.1.1.1 e he
            simp only [Bool.or_eq_true, Bool.not_eq_true', decide_eq_true_eq] at h2
            rcases h2 with h2 | h2
            · rw [h2] at hb; cases hb
            · exact hkm _ h2
      rw [show m + 1 + (l.toArray.size - n) = (m + (l.toArray.size - n)) + 1 from by omega]
      refine ⟨fun h0 => (by rw [h0] at hkr; cases hkr), fun i hi => ?_⟩
      have hin : i < n := by
        rcases Nat.lt_or_ge i n with h | h
        · exact h
        · exact absurd hi (hwait inv.head inv.pre k hk (getT k hk hkl) i h)
      obtain ⟨hun, o, ho, haft⟩ := mem_ready.1 hi
      have hunf := getD_both hun
      have hnp : isPre ds i = false := by
        cases h : isPre ds i with
        | false => rfl
        | true => have := inv.pre i h hin; rw [hunf] at this; cases this
      obtain ⟨d, hd⟩ : ∃ d, ds[i]? = some (some d) := by
        have : ds[i]? = some (ds[i]'(by omega)) := List.getElem?_eq_getElem (by omega)
        cases hx : ds[i]'(by omega) with
        | none => rw [hx] at this; simp [isPre, this] at hnp
        | some d => exact ⟨d, by rw [this, hx]⟩
      have h1 := List.all_eq_true.1 hops i (List.mem_range.2 hin)
      rw [ho, hd] at h1
      simp only [Bool.and_eq_true, Option.getD_some] at h1
      obtain ⟨⟨⟨_, hdeps⟩, hlook⟩, huniq⟩ := h1
      have hol : l[i]? = some o := by simpa using ho
      have hob := hobs i o d hol hd w' inv.mod
      have hdep : ∀ p ∈ d, p.1 < n ∧ listed.getD p.1 false = true ∧ dstOf l.toArray p.1 = some p.2 ∧ isPre ds p.1 = false := fun p hp => by
        have h2 := List.all_eq_true.1 hdeps p hp
        simp only [Bool.and_eq_true, decide_eq_true_eq, Bool.not_eq_true'] at h2
        obtain ⟨⟨⟨h3, h4⟩, h5⟩, h6⟩ := h2
        obtain ⟨o', ho', e, he, hb, hon⟩ := Region.waitsFor_spec h5
        have : o' = o := Option.some.inj (ho'.symm.trans ho)
        subst this
        exact ⟨by omega, by rw [← hon]; exact haft e he hb, h4, h6⟩
      obtain ⟨b', hF, hb1, hb2, hb3, hb4⟩ := withDeps_elim (a := b) d a hob (fun p hp => inv.done p.1 p.2 (hdep p hp).1 (hdep p hp).2.2.2 (hdep p hp).2.1 (hdep p hp).2.2.1) inv.size
      have hsame : ∀ t ∈ o.looksAt l.toArray, b'.tmps[t]? = b.tmps[t]? := fun t ht => by
        by_cases hx : ∃ p ∈ d, p.2 = t
        · obtain ⟨p, hp, he⟩ := hx
          rw [← he]
          exact hb3 p hp
        · have h2 := List.all_eq_true.1 hlook t ht
          simp only [Bool.or_eq_true] at h2
          rcases h2 with h2 | h2
          · obtain ⟨p, hp, he⟩ := List.any_eq_true.1 h2
            exact absurd ⟨p, hp, by simpa using he⟩ hx
          · rw [hb4 t (fun p hp he => hx ⟨p, hp, he⟩)]
            refine (inv.rest t (fun j hj hpr _ => ?_)).symm
            have := List.all_eq_true.1 h2 j (List.mem_range.2 hj)
            simpa [hpr] using this
      have hFb : relAt P l.toArray o b w' (Rs.getD i Stab.top) := by
        unfold relAt at hF ⊢
        rw [wanted_same hsame, exec_same (hsel' i o · · ho) hsame] at hF
        exact hF
      have step : ∀ v w2, Gr w' w2 → (Rs.getD i Stab.top).R v w2 → wpAny P .any l.toArray Q (m + (l.toArray.size - n)) (listed.setIfInBounds i true) (b.put o.dst v) w2 := by
        intro v w2 hmod hr
        have hdst : dstOf l.toArray i = o.dst := by simp [dstOf, hol]
        have hil : i < listed.size := by rw [inv.head.size]; omega
        refine ih _ _ _ ⟨inv.head.set hi hin, fun j hj hjn => getD_set_true (inv.pre j hj hjn), inv.mod.trans hmod, ?_, ?_, fun j dd hj hjp hjl hjd => ?_, fun t ht => ?_⟩ ?_
        · exact (put_same _ _ _).1.trans inv.defers
        · exact (put_same _ _ _).2.trans inv.size
        · by_cases hji : j = i
          · subst hji
            rw [hdst] at hjd
            rw [hjd]
            have hlt : dd < b.tmps.size := by
              rw [inv.size, has.2]
              have h2 := List.all_eq_true.1 hsz (j, dd) (by rw [hhs, List.mem_filterMap]; exact ⟨j, List.mem_range.2 hj, by rw [hdst, hjd, hjp]; rfl⟩)
              simpa using h2
            exact ⟨v, by simp [Act.put, hlt], hr⟩
          · rw [getD_set_ne false (Ne.symm hji)] at hjl
            obtain ⟨u, hu1, hu2⟩ := inv.done j dd hj hjp hjl hjd
            refine ⟨u, ?_, (Rs.getD j Stab.top).st _ _ _ hu2 hmod⟩
            rw [← hu1]
            cases hod : o.dst with
            | none => rfl
            | some od =>
              have h2 := List.all_eq_true.1 huniq j (List.mem_range.2 hj)
              simp only [Bool.or_eq_true, decide_eq_true_eq] at h2
              have hne : od ≠ dd := by
                intro e
                rcases h2 with (h2 | h2) | h2
                · exact hji h2
                · rw [hdst, hod] at h2; cases h2
                · exact h2 (by rw [hjd, hdst, hod, e])
              simp [Act.put, Array.getElem?_setIfInBounds_ne hne]
        · have hne : ∀ od, o.dst = some od → od ≠ t := fun od hod e => ht i hin hnp (by simp [hil]) (by rw [hdst, hod, e])
          rw [← inv.rest t (fun j hj hjp hjl => ht j hj hjp (getD_set_true hjl))]
          cases hod : o.dst with
          | none => rfl
          | some od => simp [Act.put, Array.getElem?_setIfInBounds_ne (hne od hod)]
        · have := filter_less (p := fun j => !listed.getD j false) (q := fun j => !(listed.setIfInBounds i true).getD j false) List.nodup_range (List.mem_range.2 hin) (by simp [hunf]) (by simp [hil]) (fun j hj => by rw [getD_set_ne false (Ne.symm hj)])
          omega
      unfold wpOp
      rw [ho]
      show if Region.wanted o (yielded l.toArray b.tmps) = true then _ else _
      unfold relAt at hFb
      split
      · rename_i hw
        rw [if_pos hw] at hFb
        exact .inl (wp_of_relUpon hFb step)
      · rename_i hw
        rw [if_neg hw] at hFb
        exact step undef w' (Gr.refl _) hFb
  -- the bare copies first
  have hpm : ∀ j, j ∈ pres ds ↔ j < n ∧ isPre ds j = true := fun j => by simp [pres, hnd]
  obtain ⟨L, hL⟩ : ∃ L, L = (pres ds).foldl (fun l i => l.setIfInBounds i true) (Array.replicate l.toArray.size false) := ⟨_, rfl⟩
  obtain ⟨hL1, hL2⟩ := foldl_set (is := pres ds) (listed := Array.replicate l.toArray.size false)
  rw [← hL] at hL1 hL2
  have hLf : ∀ j, L.getD j false = true ↔ j ∈ pres ds := fun j => by
    rw [hL2, getD_replicate_false]
    constructor
    · intro h
      split at h
      · rename_i h'; exact h'.1
      · cases h
    · intro h
      have := (hpm j).1 h
      rw [if_pos ⟨h, by simp; simp at hn; omega⟩]
  have inv0 : RInv l.toArray ds n Rs w a L a { w with drawn := w.drawn + 1 } := by
    refine ⟨⟨by rw [hL1]; simp, ?_, fun t ht htl => ?_⟩, fun i hi hin => (hLf i).2 ((hpm i).2 ⟨hin, hi⟩), (Gr.refl w).drew, rfl, rfl, fun j d _ hjp hl => ?_, fun _ _ => rfl⟩
    · -- what is listed has waited for nothing that is not: by the check
      have closed : ∀ (is : List Nat) (L0 : Array Bool), L0.size = l.toArray.size → preB l.toArray is L0 = true → (∀ j oj, l.toArray[j]? = some oj → L0.getD j false = true → ∀ e ∈ oj.after, Region.binds .any e = true → L0.getD e.on false = true) →
          ∀ j oj, l.toArray[j]? = some oj → (is.foldl (fun l i => l.setIfInBounds i true) L0).getD j false = true → ∀ e ∈ oj.after, Region.binds .any e = true → (is.foldl (fun l i => l.setIfInBounds i true) L0).getD e.on false = true := by
        intro is
        induction is with
        | nil => exact fun _ _ _ h => h
        | cons i is ih =>
          intro L0 hs0 hb hcl
          simp only [preB, Bool.and_eq_true] at hb
          obtain ⟨⟨⟨_, hr⟩, _⟩, hb'⟩ := hb
          obtain ⟨_, oi, hoi, hall⟩ := mem_ready.1 (by simpa using hr : i ∈ Region.ready .any l.toArray L0)
          refine ih (L0.setIfInBounds i true) (by simpa using hs0) hb' (fun j oj hj hl e he hbn => ?_)
          by_cases hij : i = j
          · subst hij
            have : oj = oi := Option.some.inj (hj.symm.trans hoi)
            subst this
            exact getD_set_true (hall e he hbn)
          · rw [getD_set_ne false hij] at hl
            exact getD_set_true (hcl j oj hj hl e he hbn)
      rw [hL]
      exact closed _ _ (by simp) hpreB (fun j oj _ hl => (by rw [getD_replicate_false] at hl; cases hl))
    · rw [hL2, if_neg (fun h => by have := (hpm t).1 h.1; omega)]
      exact getD_in (by simpa using htl) (getD_replicate_false _ _)
    · have := (hpm j).1 ((hLf j).1 hl)
      rw [hjp] at this
      exact absurd this.2 (by simp)
  have hcount : ((List.range n).filter fun i => !L.getD i false).length + (pres ds).length = n := by
    have e1 : (List.range n).filter (fun i => !L.getD i false) = (List.range n).filter (fun i => !isPre ds i) := List.filter_congr fun j hj => by
      have hjn := List.mem_range.1 hj
      congr 1
      rw [Bool.eq_iff_iff, hLf, hpm]
      simp [hjn]
    have e2 : pres ds = (List.range n).filter (isPre ds) := by rw [pres, hnd]
    rw [e1, e2]
    have : ∀ (k : List Nat), (k.filter fun i => !isPre ds i).length + (k.filter (isPre ds)).length = k.length := by
      intro k
      induction k with
      | nil => rfl
      | cons x k ih => cases h : isPre ds x <;> simp [h] <;> omega
    rw [this, List.length_range]
  have hmain := main _ _ _ _ inv0 rfl
  rw [ha, hL] at hmain
  have := pre_first hQ hsel (pres ds) _ a0 { w with drawn := w.drawn + 1 } _ hpreB hmain
  rw [← hL] at this
  have hfu : ((List.range n).filter fun i => !L.getD i false).length + (l.toArray.size - n) + (pres ds).length = l.toArray.size := by omega
  rw [hfu] at this
  exact this

theorem wp_region_rel {id : Nat} {l : List Oper} (ds : List (Option (List (Nat × Tmp)))) (hs : List (Nat × Tmp)) (hm : P.follows .mixedOrders = true) {a : Act} {w : World}
    (hB : relB l.toArray ds hs a.tmps.size = true)
    (h : relWalk P l.toArray w (preAct l.toArray (pres ds) a) l ds [] fun Rs => ∀ w', Gr w w' → withDeps Rs w' hs (preAct l.toArray (pres ds) a) fun a' => wpList P l.toArray (NoPanic Q) (l.drop ds.length) a' w') : (Code.region id l.toArray true).wp P Q a w := by
  obtain ⟨Rs, hF, _, hobs⟩ := relWalk_elim _ _ _ h
  have hB' := hB
  simp only [relB, Bool.and_eq_true, Bool.or_eq_true, decide_eq_true_eq] at hB'
  obtain ⟨⟨⟨⟨⟨⟨⟨_, hn⟩, _⟩, _⟩, _⟩, _⟩, hops⟩, _⟩ := hB'
  refine wp_region_noPanic (wp_region_rel_of hm (fun _ _ _ h => h) hB (fun i o d ho hd w' hw' => ?_) hF)
  have hi : i < ds.length := by
    rcases Nat.lt_or_ge i ds.length with h1 | h1
    · exact h1
    · rw [List.getElem?_eq_none h1] at hd; cases hd
  obtain ⟨r, hr, hall⟩ := hobs i o d ho hd (fun q hq => by
    have h1 := List.all_eq_true.1 hops i (List.mem_range.2 hi)
    have ho' : l.toArray[i]? = some o := by simpa using ho
    rw [ho', hd] at h1
    simp only [Bool.and_eq_true] at h1
    have h2 := List.all_eq_true.1 h1.1.1.2 q (by simpa using hq)
    simp only [Bool.and_eq_true, decide_eq_true_eq] at h2
    simpa using h2.1.1.1)
  have he : Rs.getD i Stab.top = r := by
    rw [List.getD_eq_getElem?_getD]
    simp only [List.length_nil, Nat.zero_add] at hr
    rw [hr]
    rfl
  rw [he]
  exact hall w' hw'

/-- An operation whose value is one and the same. -/
theorem relWalk_det {w : World} {a : Act} {o : Oper} {l : List Oper} {d : List (Nat × Tmp)} {ds : List (Option (List (Nat × Tmp)))} {Rs : List Stab} {F : List Stab → Prop} {e : Value}
    (h1 : ∀ w', Gr w w' → withDeps Rs w' d a fun a' => relAt P ops o a' w' (Stab.det e)) (h2 : relWalk P ops w a l ds (Rs ++ [Stab.det e]) F) : relWalk P ops w a (o :: l) (some d :: ds) Rs F := ⟨_, h1, h2⟩
/-- An operation whose value is known up to a relation. -/
theorem relWalk_by {w : World} {a : Act} {o : Oper} {l : List Oper} {d : List (Nat × Tmp)} {ds : List (Option (List (Nat × Tmp)))} {Rs : List Stab} {F : List Stab → Prop} (r : Stab)
    (h1 : ∀ w', Gr w w' → withDeps Rs w' d a fun a' => relAt P ops o a' w' r) (h2 : relWalk P ops w a l ds (Rs ++ [r]) F) : relWalk P ops w a (o :: l) (some d :: ds) Rs F := ⟨r, h1, h2⟩
theorem relWalk_pre {w : World} {a : Act} {o : Oper} {l : List Oper} {ds : List (Option (List (Nat × Tmp)))} {Rs : List Stab} {F : List Stab → Prop} (h2 : relWalk P ops w a l ds (Rs ++ [Stab.top]) F) : relWalk P ops w a (o :: l) (none :: ds) Rs F := h2
theorem relWalk_end {w : World} {a : Act} {l : List Oper} {Rs : List Stab} {F : List Stab → Prop} (h : F Rs) : relWalk P ops w a l [] Rs F := by cases l <;> exact h

end
end Go.Proofs.YtpaiejeipghehaaGreat.Gw
end
section
/- cell.compare: places by their numbers, one behind the other. No condition. -/
namespace Go.Proofs.YtpaiejeipghehaaGreat
open Go.Shelf Go.RowKit Go.Lib Go.Sort

def cmpP_ren : Go.Shelf.Ren := ⟨fun | 5 => 121 | 7 => 129 | n => n, fun | 22 => 3 | 3 => 3 | 4 => 4 | n => n, fun n => n⟩
set_option maxRecDepth 100000 in
theorem cmpP_laid : SlLaysC2.n5 Tryz.prog cmpP_ren := {
  mixed := by kernel_rfl
  f5 := ⟨Tryz.f121.name, by decide, Tryz.func121.trans (congrArg some (by kernel_rfl))⟩
  f7 := ⟨Tryz.f129.name, by decide, Tryz.func129.trans (congrArg some (by kernel_rfl))⟩
  t3 := Tryz.underlying3
  a3 := Tryz.isAgg3
  z3 := Tryz.sizeOf3
  v3 := Tryz.zeroValue3
  t4 := Tryz.underlying4
  a4 := Tryz.isAgg4
  z4 := Tryz.sizeOf4
  v4 := Tryz.zeroValue4
  t22 := Tryz.underlying3
  a22 := Tryz.isAgg3
  z22 := Tryz.sizeOf3
  v22 := Tryz.zeroValue3 }

def or3 (a b c : Int) : Int := if a ≠ 0 then a else if b ≠ 0 then b else c
theorem compare_at (x y : Int) (w : World) : Calls Tryz.prog 121 #[.int .i64 x, .int .i64 y] w fun e w' => e = .returned (.int .i64 (compareInt x y)) ∧ w' = w := AnyG.cmp_Compare_int cmpP_laid x y w
set_option maxRecDepth 100000 in
theorem or_at {w : World} {g : Nat} {a b c : Int} (h : Blk w g 3 [.int .i64 a, .int .i64 b, .int .i64 c]) :
    Calls Tryz.prog 120 #[.slice (some ⟨g, 0, none⟩) 3 3] w fun e w' => e = .returned (.int .i64 (or3 a b c)) ∧ w' = w := by
  have c0 := h.cell 0
  have c1 := h.cell 1
  have c2 := h.cell 2
  clear h
  simp only [List.getElem?_cons_zero, List.getElem?_cons_succ] at c0 c1 c2
  go_enter Tryz.func120, Tryz.ntmps120
  go_wp2
  refine wp_loop_rounds 4 ?_
  rw [rounds_succ]
  go_wp2
  all_goals first
    | (rw [rounds_succ]
       go_wp2
       all_goals first
         | (rw [rounds_succ]
            go_wp2
            all_goals first
              | (rw [rounds_succ]
                 go_wp2
                 go_returns
                 exact ⟨by simp_all [or3], rfl⟩)
              | (go_returns
                 exact ⟨by simp_all [or3], rfl⟩))
         | (go_returns
            exact ⟨by simp_all [or3], rfl⟩))
    | (go_returns
       exact ⟨by simp_all [or3], rfl⟩)

def cmpPl (x y : Pl) : Int := or3 (compareInt x.1 y.1) (compareInt x.2.1 y.2.1) (compareInt x.2.2 y.2.2)
attribute [local go_sem] Gw.withDeps Gw.relAt Gw.relUpon Gw.Stab.det Gw.preAct Gw.pres Gw.isPre
/-- A slice of three ints in a block of its own. -/
def three (A B C : Int) : Gw.Stab := ⟨fun v w => ∃ g, v = .slice (some ⟨g, 0, none⟩) 3 3 ∧ Blk w g 3 [.int .i64 A, .int .i64 B, .int .i64 C], fun _ _ _ ⟨g, h1, h2⟩ hm => ⟨g, h1, h2.mod hm.mod (by simp)⟩⟩
set_option maxRecDepth 100000 in
set_option maxHeartbeats 4000000 in
theorem place_cmp (x y : Pl) (w : World) :
    Calls Tryz.prog 105 #[kagg x, kagg y] w fun e w' => e = .returned (.int .i64 (cmpPl x y)) ∧ Gw.Gr w w' := by
  have hcm := compare_at
  have hor := @or_at
  unfold cmpPl
  have hbx := Blk.new w 51 (kvs x)
  have hby := Blk.new (w.alloc (.cells (kvs x).toArray 51)) 51 (kvs y)
  have hbx2 := hbx.alloc (.cells (kvs y).toArray 51)
  have hsz : (w.alloc (.cells (kvs x).toArray 51)).heap.size = w.heap.size + 1 := by simp
  rw [hsz] at hby
  have hg0 := ((Gw.Gr.refl w).alloc (.cells (kvs x).toArray 51)).alloc (.cells (kvs y).toArray 51)
  have FACTS : ∀ w', Gw.Gr ((w.alloc (.cells (kvs x).toArray 51)).alloc (.cells (kvs y).toArray 51)) w' → w'.cell? ⟨w.heap.size, 0, none⟩ = some (.int .i64 x.1) ∧ w'.cell? ⟨w.heap.size, 1, none⟩ = some (.int .i64 x.2.1) ∧ w'.cell? ⟨w.heap.size, 2, none⟩ = some (.int .i64 x.2.2) ∧
      w'.cell? ⟨w.heap.size + 1, 0, none⟩ = some (.int .i64 y.1) ∧ w'.cell? ⟨w.heap.size + 1, 1, none⟩ = some (.int .i64 y.2.1) ∧ w'.cell? ⟨w.heap.size + 1, 2, none⟩ = some (.int .i64 y.2.2) := fun w' hm =>
    have h1 := hbx2.mod hm.mod (by simp)
    have h2 := hby.mod hm.mod (by simp)
    ⟨h1.cell 0, h1.cell 1, h1.cell 2, h2.cell 0, h2.cell 1, h2.cell 2⟩
  simp only [kvs] at FACTS hg0
  clear hbx hby hbx2 hsz
  unfold kagg
  go_enter Tryz.func105, Tryz.ntmps105
  go_wp2_with fail
  refine Gw.wp_region_rel [some [], some [(0, 5)], some [], some [(2, 7)], some [(1, 6), (3, 8)], some [], some [(5, 10)], some [], some [(7, 12)], some [(6, 11), (8, 13)], some [], some [(10, 15)], some [], some [(12, 17)], some [(11, 16), (13, 18)], some [(4, 9), (9, 14), (14, 19)], some [(15, 20)]]
    [(0, 5), (1, 6), (2, 7), (3, 8), (4, 9), (5, 10), (6, 11), (7, 12), (8, 13), (9, 14), (10, 15), (11, 16), (12, 17), (13, 18), (14, 19), (15, 20), (16, 21)] (by kernel_rfl) (by kernel_rfl) ?_
  iterate 15
    apply Gw.relWalk_det
    · intro w' hm
      have F := FACTS w' hm
      go_simp
      first
        | exact ⟨Gw.Gr.refl _, rfl⟩
        | exact Gw.Gr.refl _
        | rfl
        | (refine (hcm _ _ _).mono ?_
           rintro e w3 ⟨rfl, rfl⟩
           exact Gw.relPost_det (Gw.Gr.refl _))
  apply Gw.relWalk_by (three (compareInt x.1 y.1) (compareInt x.2.1 y.2.1) (compareInt x.2.2 y.2.2))
  · intro w' hm
    go_simp
    exact ⟨(Gw.Gr.refl _).alloc _, _, rfl, Blk.new _ 3 [.int .i64 (compareInt x.1 y.1), .int .i64 (compareInt x.2.1 y.2.1), .int .i64 (compareInt x.2.2 y.2.2)]⟩
  apply Gw.relWalk_det
  · intro w' hm
    simp only [Gw.withDeps, List.nil_append, List.cons_append, List.getD_cons_zero, List.getD_cons_succ, three]
    rintro v ⟨g, rfl, hb⟩
    go_simp
    refine (hor hb).mono ?_
    rintro e w3 ⟨rfl, rfl⟩
    exact Gw.relPost_det (Gw.Gr.refl _)
  refine Gw.relWalk_end ?_
  intro w' hm
  simp only [Gw.withDeps, List.nil_append, List.cons_append, List.getD_cons_zero, List.getD_cons_succ, Gw.Stab.det, three, forall_eq]
  rintro v ⟨g, rfl, hb⟩
  go_wp2_with fail
  refine NoPanic.normal ?_
  go_wp2
  go_returns
  exact ⟨rfl, hg0.trans hm⟩
theorem place_lays (blk off size : Nat) (w : World) : CmpLays Tryz.prog 105 #[] kvs 3 cmpPl blk off size w := fun _ _ _ _ x y => (place_cmp x y _).mono fun _ _ ⟨he, hg⟩ => ⟨he, hg⟩
end Go.Proofs.YtpaiejeipghehaaGreat
end
section
/- The places of a map, rising: the one list that there is; a row of places behind the sort. No condition. -/
namespace Go.Proofs.YtpaiejeipghehaaGreat
open Go.Shelf Go.RowKit Go.Lib Go.Sort Go.Maps

theorem or3_lt (a b c : Int) : or3 a b c < 0 ↔ a < 0 ∨ a = 0 ∧ (b < 0 ∨ b = 0 ∧ c < 0) := by
  unfold or3
  by_cases ha : a = 0
  · by_cases hb : b = 0
    · rw [if_neg (by omega), if_neg (by omega)]; omega
    · rw [if_neg (by omega), if_pos hb]; omega
  · rw [if_pos ha]; omega
theorem ltOf_cmp (x y : Pl) : ltOf cmpPl x y = decide (ltPl x y) := by
  have key : ∀ a b : Int, (a < b ∧ compareInt a b = -1) ∨ (a = b ∧ compareInt a b = 0) ∨ (b < a ∧ compareInt a b = 1) := fun a b => by
    unfold compareInt
    rcases Int.lt_trichotomy a b with h | h | h
    · exact .inl ⟨h, by simp [h]⟩
    · exact .inr (.inl ⟨h, by simp [h]⟩)
    · exact .inr (.inr ⟨h, by rw [if_neg (by omega), if_pos h]⟩)
  unfold ltOf cmpPl
  rw [Bool.eq_iff_iff, decide_eq_true_iff, decide_eq_true_iff]
  unfold ltPl
  rw [or3_lt]
  have k1 := key x.1 y.1
  have k2 := key x.2.1 y.2.1
  have k3 := key x.2.2 y.2.2
  generalize compareInt x.1 y.1 = A at *
  generalize compareInt x.2.1 y.2.1 = B at *
  generalize compareInt x.2.2 y.2.2 = C at *
  constructor
  · intro h; omega
  · intro h; omega
theorem swoPl : SWO (ltOf cmpPl) where
  irrefl x := by rw [ltOf_cmp]; simpa using ltPl_irrefl x
  trans x y z h1 h2 := by rw [ltOf_cmp] at *; simp only [decide_eq_true_eq] at *; exact ltPl_trans h1 h2
  ntrans x y z h1 h2 := by rw [ltOf_cmp] at *; simp only [decide_eq_false_iff_not] at *; unfold ltPl at *; omega
theorem partPl (x y : Pl) (h : ltOf cmpPl x y = false) (k : ltOf cmpPl y x = false) : x = y := by
  rw [ltOf_cmp] at *
  simp only [decide_eq_false_iff_not] at *
  exact ltPl_total h k
theorem isPlaces_sorted {f : Pl → Int} {ss : List Pl} (hn : ss.Nodup) (hm : ∀ p, p ∈ ss ↔ PlWf p ∧ f p ≠ 0) : IsPlaces f (ss.mergeSort fun x y => !(ltOf cmpPl) y x) := by
  constructor
  · have hp := List.pairwise_mergeSort (le := fun x y => !(ltOf cmpPl) y x) (fun a b c h1 h2 => by
      simp only [Bool.not_eq_true'] at *
      exact swoPl.ntrans _ _ _ h2 h1) (fun a b => by
      cases h1 : ltOf cmpPl b a <;> cases h2 : ltOf cmpPl a b <;> simp
      have := swoPl.trans _ _ _ h1 h2
      rw [swoPl.irrefl] at this
      cases this) ss
    have hd : (ss.mergeSort fun x y => !(ltOf cmpPl) y x).Pairwise (· ≠ ·) := (List.mergeSort_perm ss _).nodup_iff.2 hn
    refine (hp.and hd).imp fun {a b} h => ?_
    obtain ⟨h1, h2⟩ := h
    simp only [Bool.not_eq_true'] at h1
    cases h3 : ltOf cmpPl a b with
    | true => rw [ltOf_cmp] at h3; simpa using h3
    | false => exact absurd (partPl _ _ h3 h1) h2
  · intro p
    rw [(List.mergeSort_perm ss _).mem_iff, hm]

theorem kvs_flat (ss : List Pl) : ∀ (i j : Nat), i < ss.length → j < 3 → (ss.flatMap kvs)[i * 3 + j]? = (kvs (ss.getD i (0, 0, 0)))[j]? := by
  induction ss with
  | nil => intro i j hi; cases hi
  | cons a r ih =>
    intro i j hi hj
    rw [List.flatMap_cons]
    cases i with
    | zero => rw [List.getElem?_append_left (by simp; omega)]; simp
    | succ i =>
      rw [List.getElem?_append_right (by simp; omega)]
      have := ih i j (by simpa using hi) hj
      simp only [List.length_cons, List.length_nil] at *
      rw [show (i + 1) * 3 + j - (0 + 1 + 1 + 1) = i * 3 + j by omega, this]
      simp
theorem kvs_get (p : Pl) : ∀ (j : Nat), j < 3 → some (kvs p)[j]! = (kvs p)[j]?
  | 0, _ => rfl
  | 1, _ => rfl
  | 2, _ => rfl
  | n + 3, h => by omega
theorem row_ok (p : Pl) : RowOK 3 (kvs p) := ⟨rfl, kvs_one p⟩
theorem vec_of_owns {w : World} {base n : Nat} {v : Value} {ss : List Pl} {t : TypeId} (h : w.ownsRow base t 3 v n (ss.flatMap kvs)) (hn : n = ss.length) : ∃ (sp : Spot) (own : List Nat), v = .slice sp.ad n sp.cap ∧ VecAt (plRow ss) n t 3 sp own w ∧ ∀ b ∈ own, base ≤ b := by
  subst hn
  obtain ⟨h0, h⟩ := h
  rcases h with ⟨rfl, hz⟩ | ⟨g, cap, cur, rfl, hb, hg, h1, h2, h3, h4⟩
  · refine ⟨⟨0, 0, 0, 3, ss.length, none⟩, [], by rw [hz], ⟨rfl, rfl, by simp [hz], fun i hi => row_ok _, rfl, rfl⟩, by simp⟩
  · refine ⟨⟨g, cap, 0, 3, ss.length, some ⟨g, 0, none⟩⟩, [g], rfl, ⟨rfl, rfl, h1, fun i hi => row_ok _, rfl, rfl, cur, hg, by simp [h3], fun i hi j hj => ?_⟩, by simpa using hb⟩
    have hlt : i * 3 + j < ss.length * 3 := by omega
    have e := kvs_flat ss i j hi hj
    rw [← h4, List.getElem?_take_of_lt hlt] at e
    simp only [Nat.zero_add]
    rw [← Array.getElem?_toList, e]
    rfl
theorem holdsK_of_block {w : World} {g : Nat} {cur : Array Value} {e : TypeId} {ss : List Pl} (hb : w.heap[g]? = some (.cells cur e (0, 0))) (ht : cur.toList.take (ss.length * 3) = ss.flatMap kvs) : HoldsK kvs 3 w g 0 ss.toArray := by
  intro t ht'
  rw [size_flatK] at ht'
  simp only [List.size_toArray] at ht'
  rw [get_flatK _ _ _ _ (by simpa using ht')]
  refine ⟨?_, by simp [World.frozen?, hb]⟩
  have h1 : (cur.toList.take (ss.length * 3))[t]? = (ss.flatMap kvs)[t]? := by rw [ht]
  rw [List.getElem?_take_of_lt ht'] at h1
  have hq : t / 3 < ss.length := by omega
  have e := kvs_flat ss (t / 3) (t % 3) hq (by omega)
  rw [show t / 3 * 3 + t % 3 = t by omega] at e
  simp only [World.cell?, hb, Nat.zero_add]
  simp only [Option.isSome_none, Bool.false_eq_true, if_false]
  rw [← Array.getElem?_toList, h1, e]
  have e2 : ss.toArray[t / 3]! = ss.getD (t / 3) (0, 0, 0) := by simp [hq, List.getD]
  rw [e2, ← kvs_get _ _ (by omega : t % 3 < 3)]
  rfl
theorem heap_sortedK {w : World} {g n : Nat} {os : Array Obj} {cur : Array Value} {e : TypeId} {fr : Nat × Nat} (d : Array Pl) (hb : w.heap[g]? = some (.cells cur e fr)) : (sortWorldK kvs 3 w g 0 n d os).heap[g]? = some (.cells (putCells id 0 (flatK kvs 3 d) cur) e fr) := by
  have hg : g < w.heap.size := (Array.getElem?_eq_some_iff.1 hb).1
  unfold sortWorldK putRowK
  rw [heap_grow_old _ _ (by simpa using hg)]
  simp [putRow, mapBlock, Sort.ahead, Array.getElem?_modify, hb, onCells]
theorem grownBy_sortedK {w : World} {g n : Nat} {os : Array Obj} (d : Array Pl) : w.grownBy (sortWorldK kvs 3 w g 0 n d os) (some g) := by
  unfold sortWorldK putRowK
  refine ⟨rfl, rfl, rfl, by simp, fun k hk hne => ?_⟩
  rw [heap_grow_old _ _ (by simpa using hk)]
  have : g ≠ k := fun e => hne (by rw [e])
  simp [putRow, mapBlock, Sort.ahead, Array.getElem?_modify, this]
theorem vec_sorted {w : World} {g n cap m : Nat} {os : Array Obj} {cur : Array Value} (ts : List Pl) (hl : ts.length = m) (hb : w.heap[g]? = some (.cells cur 51 (0, 0))) (h1 : m ≤ cap) (h3 : cur.size = cap * 3) :
    VecAt (plRow ts) m 51 3 ⟨g, cap, 0, 3, m, some ⟨g, 0, none⟩⟩ [g] (sortWorldK kvs 3 w g 0 n ts.toArray os) := by
  refine ⟨rfl, rfl, h1, fun i hi => row_ok _, rfl, rfl, _, heap_sortedK _ hb, by simp [putCells, h3], fun i hi j hj => ?_⟩
  subst hl
  have hlt : i * 3 + j < ts.length * 3 := by omega
  have hlt2 : i * 3 + j < cur.size := by omega
  simp only [Nat.zero_add, putCells, Array.getElem?_mapIdx, size_flatK, List.size_toArray, Nat.zero_le, true_and, hlt, if_true, Nat.sub_zero, id, Array.getElem?_eq_getElem hlt2, Option.map_some]
  rw [get_flatK _ _ _ _ (by simpa using hlt), show (i * 3 + j) / 3 = i by omega, show (i * 3 + j) % 3 = j by omega]
  have e2 : ts.toArray[i]! = ts.getD i (0, 0, 0) := by simp [hi, List.getD]
  rw [e2, kvs_get _ _ hj]
  rfl
end Go.Proofs.YtpaiejeipghehaaGreat
end
section
/- slices.SortedFunc at places, and cell's Places: a new row of the places whose word is not 0, rising. Condition: the map is small. -/
namespace Go.Proofs.YtpaiejeipghehaaGreat
open Go.Shelf Go.RowKit Go.Lib Go.Sort Go.Maps

/-- A new row of places. -/
def NewRow (base : Nat) (v : Value) (L : List Pl) (w : World) : Prop := ∃ (sp : Spot) (own : List Nat), v = .slice sp.ad L.length sp.cap ∧ VecAt (plRow L) L.length 51 3 sp own w ∧ ∀ b ∈ own, base ≤ b
abbrev sortPl (ss : List Pl) : List Pl := ss.mergeSort fun x y => !(ltOf cmpPl) y x
theorem sort_calls (blk cap : Nat) (ss : List Pl) (W : World) (hH : HoldsK kvs 3 W blk 0 ss.toArray) (hblk : blk < W.heap.size) (hsz : ss.length < 4611686018427387904) :
    Calls Tryz.prog 118 #[.slice (some ⟨blk, 0, none⟩) ss.length cap, .func (.func 105) #[] #[]] W fun e w' => e = .returned (.tuple #[]) ∧ ∃ n os, w' = sortWorldK kvs 3 W blk 0 n (sortPl ss).toArray os :=
  AnyQ.slices_SortFunc_total sortP_laid 3 Tryz.isAgg51 Tryz.sizeOf51 kvs (fun _ => rfl) kvs_one cmpPl swoPl 105 #[] blk 0 cap ss.toArray W (enters_of Tryz.func105 (by kernel_rfl) rfl) (place_lays _ _ _ _) hH hblk (by simpa using hsz) partPl
theorem sort_none (p : Option Addr) (cap : Nat) (W : World) :
    Calls Tryz.prog 118 #[.slice p 0 cap, .func (.func 105) #[] #[]] W fun e w' => e = .returned (.tuple #[]) ∧ w' = W :=
  AnyF.slices_SortFunc_none (P := Tryz.prog) (ρ := sortP_ren) { sortP_laid with } p cap _ W
set_option maxRecDepth 100000 in
set_option maxHeartbeats 2000000 in
theorem sorted_in (n : Nat) (hn : 4 ≤ n) (g : Nat) (lb : Array Value) (eg : ∀ args w, (callFunc g args).run Tryz.prog w = .ok (.enter g args) w)
    (S : List Pl → Prop) (N : Nat) (hN : N ≤ maxLen) (hNb : N * 24 ≤ 140737488355328) (w : World) (hseq : SeqGives Fence.wide (n - 1 - 1 - 1) Tryz.prog g lb kv S N w) :
    CallsIn Fence.wide n Tryz.prog 103 #[.func (.func g) #[] lb, .func (.func 105) #[] #[]] w fun e w' => ∃ (v : Value) (ss : List Pl), e = .returned v ∧ S ss ∧ NewRow w.heap.size v (sortPl ss) w' ∧ Below w.heap.size w w' := by
  have h1 : 1 ≤ n := by omega
  have h8 : Fence.wide.fn 117 := trivial
  have h9 : Fence.wide.fn 118 := trivial
  have e8 : ∀ args w, (callFunc 117 args).run Tryz.prog w = .ok (.enter 117 args) w := enters_of Tryz.func117 (by kernel_rfl) rfl
  have e9 : ∀ args w, (callFunc 118 args).run Tryz.prog w = .ok (.enter 118 args) w := enters_of Tryz.func118 (by kernel_rfl) rfl
  have cC := collect_in Fence.wide (n - 1) trivial trivial rfl (by omega) g lb trivial eg _ N hN hNb w hseq.bounded
  refine callsIn_of_wp Tryz.func103 rfl trivial ?_ rfl
  simp only [Tryz.ntmps103, List.size_toArray, List.length_cons, List.length_nil, Nat.reduceAdd, Nat.reduceSub, Array.replicate_succ, Array.replicate_zero, List.push_toArray, List.append_toArray, List.nil_append, List.cons_append]
  gi_wp2_with (gi_at_fn 117; refine cC.mono ?_; rintro e W ⟨v, ss, rfl, ⟨hS, hlen⟩, hrow, hnil, hb⟩)
  rcases hrow.2 with ⟨rfl, hz⟩ | ⟨gb, cap, cur, rfl, hbase, hgb, r1, r2, r3, r4⟩
  · have hss : ss = [] := List.eq_nil_of_length_eq_zero hz
    subst hss
    gi_wp2_with (gi_at_fn 118; refine (callsIn_wide.2 (sort_none none 0 W)).mono ?_; rintro e w' ⟨rfl, rfl⟩)
    go_ret
    obtain ⟨sp, own, h1, h2, h3⟩ := vec_of_owns hrow rfl
    refine ⟨_, [], rfl, hS, ?_, hb⟩
    simp only [sortPl, List.mergeSort_nil]
    exact ⟨sp, own, h1, h2, h3⟩
  · have hH : HoldsK kvs 3 W gb 0 ss.toArray := holdsK_of_block hgb r4
    have hgl : gb < W.heap.size := (Array.getElem?_eq_some_iff.1 hgb).1
    have hsz : ss.length < 4611686018427387904 := by omega
    have cS := sort_calls gb cap ss W hH hgl hsz
    have hlm : (sortPl ss).length = ss.length := List.length_mergeSort ss
    gi_wp2_with (gi_at_fn 118; refine (callsIn_wide.2 cS).mono ?_; rintro e w' ⟨rfl, nn, os, rfl⟩)
    go_ret
    refine ⟨_, ss, rfl, hS, ⟨_, _, ?_, vec_sorted (sortPl ss) rfl hgb (by omega) r3, by simpa using hbase⟩, hb.grown (grownBy_sortedK _) hb.size (fun j hj => by cases hj; exact hbase)⟩
    rw [hlm]
    rfl
set_option maxRecDepth 100000 in
set_option maxHeartbeats 2000000 in
theorem places_at {w : World} {c o b n : Nat} {f : Pl → Int} (h0 : w.cell? ⟨c, o, none⟩ = some (.map (some b))) (hm : MapAt w b f n) (hn : n ≤ 1000000) :
    Calls Tryz.prog 76 #[.pointer (some ⟨c, o, none⟩)] w fun e w' => ∃ v, e = .returned v ∧ NewRow w.heap.size v (placesOf f) w' ∧ IsPlaces f (placesOf f) ∧ Below w.heap.size w w' := by
  obtain ⟨D, hown, hat, hhas⟩ := hm
  have hbl := hown.lt
  have hsz := hown.size_le
  have hseq : SeqGives Fence.wide 5 Tryz.prog 119 #[.pointer (some ⟨w.heap.size, 0, none⟩)] kv (fun ss => ss.Nodup ∧ (∀ x ∈ ss, PlWf x) ∧ ∀ x, PlWf x → (x ∈ ss ↔ has D (litP x) = true)) (Maps.size D) (w.alloc (.cells #[.map (some b)] 174)) :=
    keys_gives Fence.wide _ trivial rfl (by omega) w.heap.size b n D _ (by simp) (by simp) (by
      obtain ⟨es, clock, hb, Ft, hs, hD⟩ := hown
      exact ⟨es, clock, (Below.heap_alloc _ _ b hbl).trans hb, Ft, hs, hD⟩)
  have cK : ∀ mb W, CallsIn Fence.wide 8 Tryz.prog 104 #[.map mb] W fun e w' => e = .returned (.func (.func 119) #[] #[.pointer (some ⟨W.heap.size, 0, none⟩)]) ∧ w' = W.alloc (.cells #[.map mb] 174) := fun mb W => keys_in Fence.wide 8 trivial rfl mb W
  have cS := sorted_in 8 (by omega) 119 #[.pointer (some ⟨w.heap.size, 0, none⟩)] (enters_of Tryz.func119 (by kernel_rfl) rfl) _ _ (by unfold maxLen; omega) (by omega) _ hseq
  have hfK : Fence.wide.fn 104 := trivial
  have hfS : Fence.wide.fn 103 := trivial
  have eK := enters_of Tryz.func104 (by kernel_rfl) rfl
  have eS := enters_of Tryz.func103 (by kernel_rfl) rfl
  refine (callsIn_wide (n := 9)).1 ?_
  refine callsIn_of_wp Tryz.func76 rfl trivial ?_ rfl
  simp only [Tryz.ntmps76, List.size_toArray, List.length_cons, List.length_nil, Nat.reduceAdd, Nat.reduceSub, Array.replicate_succ, Array.replicate_zero, List.push_toArray, List.append_toArray, List.nil_append, List.cons_append]
  gi_wp2
  refine (cK _ _).mono ?_
  rintro e w' ⟨rfl, rfl⟩
  gi_wp2
  refine cS.mono ?_
  rintro e w' ⟨v, ss, rfl, ⟨hS1, hS2, hS3⟩, hrow, hb⟩
  gi_wp2
  go_ret
  have hip : IsPlaces f (sortPl ss) := isPlaces_sorted hS1 fun p => by
    constructor
    · intro hp
      refine ⟨hS2 p hp, ?_⟩
      have h1 := (hS3 p (hS2 p hp)).1 hp
      rw [hhas p (hS2 p hp)] at h1
      simpa using h1
    · rintro ⟨h1, h2⟩
      exact (hS3 p h1).2 (by rw [hhas p h1]; simpa using h2)
  rw [placesOf_eq hip]
  obtain ⟨sp, own, g1, g2, g3⟩ := hrow
  exact ⟨_, rfl, ⟨sp, own, g1, g2, fun b hb => by have := g3 b hb; simp at this; omega⟩, hip, ((Below.refl _ w).alloc (Nat.le_refl _) _).trans (hb.mono (by simp))⟩
end Go.Proofs.YtpaiejeipghehaaGreat
end
section
/- maps.Clone at maps of places: the shelf's contract, laid at this program. -/
namespace Go.Proofs.YtpaiejeipghehaaGreat
open Go.Shelf Go.RowKit

def clone_ren : Go.Shelf.Ren := ⟨fun | 5 => 116 | 7 => 125 | n => n, fun | 23 => 174 | 25 => 51 | 3 => 23 | 4 => 4 | 20 => 20 | n => n, fun n => n⟩
theorem clone_laid : SlLaysW.n5 Tryz.prog clone_ren := {
  mixed := by kernel_rfl
  f5 := ⟨Tryz.f116.name, by decide, Tryz.func116.trans (congrArg some (by kernel_rfl))⟩
  f7 := Tryz.func125.trans (congrArg some (by kernel_rfl))
  t4 := Tryz.underlying4
  a4 := Tryz.isAgg4
  z4 := Tryz.sizeOf4
  v4 := Tryz.zeroValue4
  t20 := Tryz.underlying20
  a20 := Tryz.isAgg20
  z20 := Tryz.sizeOf20
  v20 := Tryz.zeroValue20
  t23 := Tryz.underlying174
  a23 := Tryz.isAgg174
  z23 := Tryz.sizeOf174
  v23 := Tryz.zeroValue174 }

theorem clone_at {w : World} {b n : Nat} {f : Pl → Int} (m : MapAt w b f n) :
    Calls Tryz.prog 116 #[.map (some b)] w fun e w' => e = .returned (.map (some w.heap.size)) ∧ MapAt w' w.heap.size f n ∧ Below w.heap.size w w' := by
  obtain ⟨D, o, a, h⟩ := m
  refine (AnyW.maps_Clone_owns clone_laid 51 (plainElem Tryz.prog 23) b n D w o).mono ?_
  rintro e w' ⟨rfl, h1, _, h2⟩
  exact ⟨rfl, ⟨D, h1, a, h⟩, h2⟩
end Go.Proofs.YtpaiejeipghehaaGreat
end
section
/- maps.Clone and maps.Equal at maps of places, as known calls. -/
namespace Go.Proofs.YtpaiejeipghehaaGreat
open Go.RowKit


/-- Whether two maps are one, at all places that there are. -/
noncomputable def samePl (f g : Pl → Int) : Bool := @decide (∀ p, PlWf p → f p = g p) (Classical.propDecidable _)
theorem samePl_iff {f g : Pl → Int} : samePl f g = true ↔ ∀ p, PlWf p → f p = g p := by unfold samePl; exact @decide_eq_true_iff _ (Classical.propDecidable _)
def cloneX : List SV → M Rep SV
  | [.mp n] => (getC n).bind fun
    | .rep (.pmap l g c) => (newC (.rep (.pmap l g c))).bind fun k => .ret (.mp k)
    | _ => .fail 330
  | _ => .fail 331
noncomputable def primM (f : FuncId) (args : List SV) : Option (M Rep SV) := match Nat.beq f 116 with
  | true => some (cloneX args)
  | false => none
theorem clone_s {args : List SV} {st st' : St Rep} {s : SV} (h : cloneX args st = .ok s st') : CallS repAt Tryz.prog 116 args st st' s := by
  unfold cloneX at h
  split at h
  · next n =>
    obtain ⟨c, st1, h3, h4⟩ := bind_ok.1 h
    obtain ⟨hc, rfl⟩ := getC_ok.1 h3
    split at h4
    · next l g cnt =>
      obtain ⟨k, st2, h5, h6⟩ := bind_ok.1 h4
      obtain ⟨rfl, rfl⟩ := newC_ok.1 h5
      obtain ⟨rfl, rfl⟩ := ret_ok.1 h6
      have q : Quiet st { st with fr := insN n st.fr } := Quiet.get
      refine ⟨q.fn.trans (Fn.new _ _), fun B F ρ own w vals si hv => ?_⟩
      have s1 := si.of_quiet q
      obtain ⟨e, he, hat⟩ := s1.li.at_ n _ (s1.log n (mem_ins.2 (.inl rfl))) hc
      simp only [denL, den, he, Option.map_some, Option.some.injEq] at hv
      subst hv
      refine (clone_at (CAt_rep.1 hat).2).mono ?_
      rintro ex w' ⟨rfl, hm, hb⟩
      have ht := Tr.new (w' := w') s1 ⟨w.heap.size, 0, 0, 0, 0, none⟩ [w.heap.size] ⟨hb.os, hb.tape, hb.output, hb.size, fun k hk _ => hb.block k hk⟩ (show Rep.At B (.pmap l g cnt) ⟨w.heap.size, 0, 0, 0, 0, none⟩ [w.heap.size] w' from ⟨rfl, hm⟩) (fun b hb' => by
        rw [List.mem_singleton] at hb'
        subst hb'
        exact ⟨Nat.le_refl _, hm.lt⟩)
      exact ⟨_, _, _, rfl, by simp [den, Names.put_same], Tr.of_quiet q ht⟩
    · exact (fail_ok.1 h4).elim
  · exact (fail_ok.1 h).elim
theorem primM_ok : ∀ f args m, primM f args = some m → ∀ st s st', m st = .ok s st' → CallS repAt Tryz.prog f args st st' s := by
  intro f args m hm st s st' h
  unfold primM at hm
  split at hm
  · next hb =>
    obtain rfl := Nat.eq_of_beq_eq_true hb
    cases hm
    exact clone_s h
  · cases hm
/-- With the calls on maps known. -/
noncomputable def Lib.maps (l : Lib Rep) : Lib Rep := ⟨fun f args => match primM f args with
  | some m => some m
  | none => l.prim f args, l.ext, l.tidy⟩
theorem Lib.maps_ok {l : Lib Rep} (hl : LibOK repAt Tryz.prog l) : LibOK repAt Tryz.prog l.maps := by
  refine ⟨fun f args m hm => ?_, hl.ext, hl.tidy⟩
  simp only [Lib.maps] at hm
  split at hm
  · next m' h =>
    injection hm with hm
    subst hm
    exact primM_ok f args m' h
  · exact hl.prim f args m hm
end Go.Proofs.YtpaiejeipghehaaGreat
end
section
/- cell's Places as a known call. -/
namespace Go.Proofs.YtpaiejeipghehaaGreat
open Go.RowKit

noncomputable def placesX : List SV → M Rep SV
  | [.ptr n o] => (getC n).bind fun
    | .row l _ => (M.opt 340 l[o]?).bind fun
      | .mp m => (getC m).bind fun
        | .rep (.pmap l g c) => (need 341 (Nat.ble c 1000000)).bind fun _ => (newC (.rep (.vec (colsPl (placesOf (getL l g))) (placesOf (getL l g)).length 51))).bind fun k => .ret (.tsl k (placesOf (getL l g)).length)
        | _ => .fail 342
      | _ => .fail 343
    | _ => .fail 344
  | _ => .fail 345
theorem vec_own_lt {f : Nat → List Value} {len k : Nat} {t : TypeId} {e : Spot} {own : List Nat} {w : World} (h : VecAt f len t k e own w) : ∀ b ∈ own, b < w.heap.size := by
  obtain ⟨_, _, _, _, h5⟩ := h
  intro b hb
  cases ha : e.ad with
  | none => rw [ha] at h5; rw [h5.1] at hb; cases hb
  | some g =>
    rw [ha] at h5
    obtain ⟨_, g2, cs, g3, _⟩ := h5
    rw [g2, List.mem_singleton] at hb
    subst hb
    exact heap_lt g3
theorem places_s {args : List SV} {st st' : St Rep} {s : SV} (h : placesX args st = .ok s st') : CallS repAt Tryz.prog 76 args st st' s := by
  unfold placesX at h
  split at h
  · next n o =>
    obtain ⟨c, st1, h3, h4⟩ := bind_ok.1 h
    obtain ⟨hc, rfl⟩ := getC_ok.1 h3
    split at h4
    · next l t =>
      obtain ⟨sv, _, h5, h6⟩ := bind_ok.1 h4
      obtain ⟨hsv, rfl⟩ := opt_ok.1 h5
      split at h6
      · next m =>
        obtain ⟨c2, st2, h7, h8⟩ := bind_ok.1 h6
        obtain ⟨hc2, rfl⟩ := getC_ok.1 h7
        split at h8
        · next l2 g cnt =>
          obtain ⟨_, st3, h9, h10⟩ := bind_ok.1 h8
          obtain ⟨q2, hq⟩ := need_ok h9
          obtain ⟨k, st4, h11, h12⟩ := bind_ok.1 h10
          obtain ⟨rfl, rfl⟩ := newC_ok.1 h11
          obtain ⟨rfl, rfl⟩ := ret_ok.1 h12
          have q : Quiet st st3 := (Quiet.get.trans (Quiet.get (n := m) (st := { st with fr := insN n st.fr }))).trans q2
          refine ⟨q.fn.trans (Fn.new _ _), fun B F ρ own w vals si hv => ?_⟩
          have s1 := si.of_quiet q
          have hn : n ∈ st3.fr := q2.fr n (mem_ins.2 (.inr (mem_ins.2 (.inl rfl))))
          have hm : m ∈ st3.fr := q2.fr m (mem_ins.2 (.inl rfl))
          obtain ⟨e, he, hat⟩ := s1.li.at_ n _ (s1.log n hn) (by rw [q.hp]; exact hc)
          obtain ⟨e2, he2, hat2⟩ := s1.li.at_ m _ (s1.log m hm) (by rw [q.hp]; exact hc2)
          simp only [denL, den, he, Option.map_some, Option.some.injEq] at hv
          subst hv
          obtain ⟨_, cs, vs, g1, g2, g3, _⟩ := hat
          obtain ⟨x, g5, g4⟩ := denL_get g2 hsv
          simp only [den, he2, Option.map_some, Option.some.injEq] at g5
          subst g5
          have hcell : w.cell? ⟨e.b, e.off + o, none⟩ = some (.map (some e2.b)) := by
            rw [cell_of_row w e.b _ cs t (0, 0) g1, g3 o (lt_of_some g4)]
            exact g4
          refine (places_at hcell (CAt_rep.1 hat2).2 (Nat.le_of_ble_eq_true (hq s1.ask))).mono ?_
          rintro ex w' ⟨v, rfl, ⟨sp, own0, rfl, hvec, hown⟩, _, hb⟩
          have ht := Tr.new (w' := w') s1 sp own0 ⟨hb.os, hb.tape, hb.output, hb.size, fun k hk _ => hb.block k hk⟩ (show Rep.At B (.vec (colsPl (placesOf (getL l2 g))) (placesOf (getL l2 g)).length 51) sp own0 w' from hvec) (fun b hb' => ⟨hown b hb', vec_own_lt hvec b hb'⟩)
          exact ⟨_, _, _, rfl, by simp [den, Names.put_same], Tr.of_quiet q ht⟩
        · exact (fail_ok.1 h8).elim
      · exact (fail_ok.1 h6).elim
    · exact (fail_ok.1 h4).elim
  · exact (fail_ok.1 h).elim
noncomputable def primP (f : FuncId) (args : List SV) : Option (M Rep SV) := match Nat.beq f 76 with
  | true => match args with
    | [.ptr _ _] => some (placesX args)
    | _ => none
  | false => primM f args
theorem primP_ok : ∀ f args m, primP f args = some m → ∀ st s st', m st = .ok s st' → CallS repAt Tryz.prog f args st st' s := by
  intro f args m hm st s st' h
  unfold primP at hm
  split at hm
  · next hb =>
    obtain rfl := Nat.eq_of_beq_eq_true hb
    split at hm <;> cases hm
    exact places_s h
  · exact primM_ok f args m hm st s st' h
/-- With the calls on maps known, and Places. -/
noncomputable def Lib.cells (l : Lib Rep) : Lib Rep := ⟨fun f args => match primP f args with
  | some m => some m
  | none => l.prim f args, l.ext, l.tidy⟩
theorem Lib.cells_ok {l : Lib Rep} (hl : LibOK repAt Tryz.prog l) : LibOK repAt Tryz.prog l.cells := by
  refine ⟨fun f args m hm => ?_, hl.ext, hl.tidy⟩
  simp only [Lib.cells] at hm
  split at hm
  · next m' h =>
    injection hm with hm
    subst hm
    exact primP_ok f args m' h
  · exact hl.prim f args m hm
end Go.Proofs.YtpaiejeipghehaaGreat
end
section
/- memory of the laws of layer 15: the states at its loop's head. Condition: both memories hold the same words. -/
namespace Go.Proofs.YtpaiejeipghehaaGreat
noncomputable abbrev libM : Lib Rep := (lib0.with tabL).cells.more primUP
theorem libM_ok : LibOK repAt Tryz.prog libM := Lib.more_ok (Lib.cells_ok (Lib.with_ok lib0_ok tabL_ok)) primUP_ok
noncomputable abbrev meF : FuncId := 24
noncomputable abbrev meZ : Nat := slotsOf Tryz.prog meF
noncomputable def meL : Code × List Fr := loopOf Tryz.prog meF 0
structure MEA where
  G : Pl → Int
  k : Nat
  n : Nat
  c0 : Int
  c1 : Int
  c2 : Int
  c3 : Int
  c4 : Int
def MEA.ok (a : MEA) : Prop := a.k ≤ 1000000 ∧ a.n ≤ 1000000
def meHp (a : MEA) : List (Nat × Chunk Rep) := [(0, .row [.ptr 2 0] 153), (1, .rep (.ucells [] a.G a.k)), (2, .row [.mp 3, iv a.c0, iv a.c1, iv a.c2, iv a.c3, iv a.c4] 176), (3, .rep (.pmap [] a.G a.n))]
noncomputable def meS (a : MEA) (i : Int) : Sym Rep :=
  ⟨[(5, .tsl 4 (placesOf (getL [] a.G)).length), (1, .ptr 1 0), (0, .ptr 0 0), (6, .tsl 5 (placesOf (getL [] a.G)).length), (7, iv i)],
   [(0, .row [.ptr 2 0] 153), (1, .rep (.ucells [] a.G a.k)), (2, .row [.mp 3, iv a.c0, iv a.c1, iv a.c2, iv a.c3, iv a.c4] 176), (3, .rep (.pmap [] a.G a.n)),
    (4, .rep (.vec (colsPl (placesOf (getL [] a.G))) (placesOf (getL [] a.G)).length 51)), (5, .rep (.vec (colsPl (placesOf (getL [] a.G))) (placesOf (getL [] a.G)).length 51))], 6⟩
def meCfg : Stop → List Gen × List Nat
  | .fin .ret _ => ([], [4])
  | _ => ([], [5, 1, 0, 6, 7])
noncomputable def meLen (a : MEA) : Nat := (placesOf (getL [] a.G)).length
def meP (a : MEA) (i : Int) : Prop := 0 ≤ i ∧ i ≤ (meLen a : Int) ∧ a.ok ∧ IsPlaces (getL [] a.G) (placesOf (getL [] a.G)) ∧ meLen a ≤ a.k
abbrev meQ (a : MEA) : Ex → Sym Rep → Prop := Ends Tryz.prog Tryz.f24 fun l s => l = [.v (.bool true)] ∧ s.hp = meHp a
end Go.Proofs.YtpaiejeipghehaaGreat
end
section
/- memory of the laws of layer 15: its runs from point to point. Condition: both memories hold the same words. -/
namespace Go.Proofs.YtpaiejeipghehaaGreat
set_option linter.unusedVariables false
set_option linter.unusedSimpArgs false
set_option maxRecDepth 100000
set_option maxHeartbeats 8000000
def meI (a : MEA) (r : Nat) (s : Sym Rep) : Prop := ∃ (i : Int), s = meS a i ∧ meP a i ∧ r = meLen a - i.toNat
abbrev meR (a : MEA) (r : Nat) (x : Ex) (s : Sym Rep) : Prop := match x with
  | .nor => ∃ k', k' < r ∧ meI a k' s
  | x => Tri repAt Tryz.prog meZ 4 (.out x) meL.2 s (meQ a)
theorem me_next (a : MEA) (i : Int) {r : Nat} (hP : meP a i) (hk : meLen a - i.toNat < r) : Tri repAt Tryz.prog meZ 4 (.out .nor) [] (meS a i) (meR a r) := Tri.fin ⟨_, hk, i, rfl, hP, rfl⟩

theorem me_exit (a : MEA) (i : Int)   : Tri repAt Tryz.prog meZ 4 (.out (.out 0)) meL.2 (meS a i) (meQ a) := by
  exact Tri.pathP mixed libM_ok (n := 10000) (k := 10000) (j := 0) (cfg := meCfg) (o := []) (g' := .out .ret) (fs' := []) (s' := ⟨[(4, SV.v (Value.bool true))], [(0, Chunk.row [SV.ptr 2 0] 153), (1, Chunk.rep (Rep.ucells [] a.G a.k)), (2, Chunk.row [SV.mp 3, SV.v (Value.int IntKind.i64 a.c0), SV.v (Value.int IntKind.i64 a.c1), SV.v (Value.int IntKind.i64 a.c2), SV.v (Value.int IntKind.i64 a.c3), SV.v (Value.int IntKind.i64 a.c4)] 176), (3, Chunk.rep (Rep.pmap [] a.G a.n))], 4⟩) (asks := []) rfl (by kernel_rfl) trivial (Tri.fin (Ends.of (t := 4) (by kernel_rfl) (.inl rfl) rfl ⟨rfl, rfl⟩))
theorem me_round (a : MEA) (i : Int) (hP : meP a i) {r : Nat} (hr : r = meLen a - i.toNat) : Tri repAt Tryz.prog meZ 4 (.go meL.1) [] (meS a i) (meR a r) := by
  rcases Bool.eq_false_or_eq_true (decide (i < (↑(placesOf (getL [] a.G)).length : Int))) with h0 | h0
  · have h1 : (decide (0 ≤ i ∧ i < (↑(placesOf (getL [] a.G)).length : Int) ∧ (placesOf (getL [] a.G)).length ≤ (placesOf (getL [] a.G)).length)) = true := by (obtain ⟨i0, i1, hok, hip, hl⟩ := hP; unfold meLen at *; first | exact Nat.ble_eq_true_of_le hok.1 | exact Nat.ble_eq_true_of_le hok.2 | exact decide_eq_true ⟨i0, of_decide_eq_true h0, Nat.le_refl _⟩ | exact place_wf hip (by have := of_decide_eq_true h0; omega) | exact bne_self_eq_false _ | (simp only [beq_self_eq_true, bne_self_eq_false, Bool.and_self, Bool.not_true, Bool.not_false]; done))
    have h2 : ((fun i => ((placesOf (getL [] a.G)).getD i (0, 0, 0)).fst) i.toNat == (fun i => ((placesOf (getL [] a.G)).getD i (0, 0, 0)).fst) i.toNat && ((fun i => ((placesOf (getL [] a.G)).getD i (0, 0, 0)).snd.fst) i.toNat == (fun i => ((placesOf (getL [] a.G)).getD i (0, 0, 0)).snd.fst) i.toNat && ((fun i => ((placesOf (getL [] a.G)).getD i (0, 0, 0)).snd.snd) i.toNat == (fun i => ((placesOf (getL [] a.G)).getD i (0, 0, 0)).snd.snd) i.toNat && true))) = true := by (obtain ⟨i0, i1, hok, hip, hl⟩ := hP; unfold meLen at *; first | exact Nat.ble_eq_true_of_le hok.1 | exact Nat.ble_eq_true_of_le hok.2 | exact decide_eq_true ⟨i0, of_decide_eq_true h0, Nat.le_refl _⟩ | exact place_wf hip (by have := of_decide_eq_true h0; omega) | exact bne_self_eq_false _ | (simp only [beq_self_eq_true, bne_self_eq_false, Bool.and_self, Bool.not_true, Bool.not_false]; done))
    have h3 : (plWfB ((fun i => ((placesOf (getL [] a.G)).getD i (0, 0, 0)).fst) i.toNat, (fun i => ((placesOf (getL [] a.G)).getD i (0, 0, 0)).snd.fst) i.toNat, (fun i => ((placesOf (getL [] a.G)).getD i (0, 0, 0)).snd.snd) i.toNat)) = true := by (obtain ⟨i0, i1, hok, hip, hl⟩ := hP; unfold meLen at *; first | exact Nat.ble_eq_true_of_le hok.1 | exact Nat.ble_eq_true_of_le hok.2 | exact decide_eq_true ⟨i0, of_decide_eq_true h0, Nat.le_refl _⟩ | exact place_wf hip (by have := of_decide_eq_true h0; omega) | exact bne_self_eq_false _ | (simp only [beq_self_eq_true, bne_self_eq_false, Bool.and_self, Bool.not_true, Bool.not_false]; done))
    have h4 : (a.k.ble 1000000) = true := by (obtain ⟨i0, i1, hok, hip, hl⟩ := hP; unfold meLen at *; first | exact Nat.ble_eq_true_of_le hok.1 | exact Nat.ble_eq_true_of_le hok.2 | exact decide_eq_true ⟨i0, of_decide_eq_true h0, Nat.le_refl _⟩ | exact place_wf hip (by have := of_decide_eq_true h0; omega) | exact bne_self_eq_false _ | (simp only [beq_self_eq_true, bne_self_eq_false, Bool.and_self, Bool.not_true, Bool.not_false]; done))
    have h5 : (getL [] a.G ((fun i => ((placesOf (getL [] a.G)).getD i (0, 0, 0)).fst) i.toNat, (fun i => ((placesOf (getL [] a.G)).getD i (0, 0, 0)).snd.fst) i.toNat, (fun i => ((placesOf (getL [] a.G)).getD i (0, 0, 0)).snd.snd) i.toNat) != getL [] a.G ((fun i => ((placesOf (getL [] a.G)).getD i (0, 0, 0)).fst) i.toNat, (fun i => ((placesOf (getL [] a.G)).getD i (0, 0, 0)).snd.fst) i.toNat, (fun i => ((placesOf (getL [] a.G)).getD i (0, 0, 0)).snd.snd) i.toNat)) = false := by (obtain ⟨i0, i1, hok, hip, hl⟩ := hP; unfold meLen at *; first | exact Nat.ble_eq_true_of_le hok.1 | exact Nat.ble_eq_true_of_le hok.2 | exact decide_eq_true ⟨i0, of_decide_eq_true h0, Nat.le_refl _⟩ | exact place_wf hip (by have := of_decide_eq_true h0; omega) | exact bne_self_eq_false _ | (simp only [beq_self_eq_true, bne_self_eq_false, Bool.and_self, Bool.not_true, Bool.not_false]; done))
    exact Tri.pathP mixed libM_ok (n := 10000) (k := 10000) (j := 0) (cfg := meCfg) (o := List.replicate 3 (some true) ++ List.replicate 4 (some false) ++ [some true] ++ [some false, some false] ++ [none, none] ++ [some true] ++ List.replicate 4 (some false) ++ [some true] ++ [some false, some false] ++ [some true] ++ List.replicate 3 (some false)) (g' := .out .nor) (fs' := []) (s' := meS (a) (IntKind.i64.wrap (i + 1))) (asks := [((getL [] a.G ((fun i => ((placesOf (getL [] a.G)).getD i (0, 0, 0)).fst) i.toNat, (fun i => ((placesOf (getL [] a.G)).getD i (0, 0, 0)).snd.fst) i.toNat, (fun i => ((placesOf (getL [] a.G)).getD i (0, 0, 0)).snd.snd) i.toNat) != getL [] a.G ((fun i => ((placesOf (getL [] a.G)).getD i (0, 0, 0)).fst) i.toNat, (fun i => ((placesOf (getL [] a.G)).getD i (0, 0, 0)).snd.fst) i.toNat, (fun i => ((placesOf (getL [] a.G)).getD i (0, 0, 0)).snd.snd) i.toNat)), false), (!((fun i => ((placesOf (getL [] a.G)).getD i (0, 0, 0)).fst) i.toNat == (fun i => ((placesOf (getL [] a.G)).getD i (0, 0, 0)).fst) i.toNat && ((fun i => ((placesOf (getL [] a.G)).getD i (0, 0, 0)).snd.fst) i.toNat == (fun i => ((placesOf (getL [] a.G)).getD i (0, 0, 0)).snd.fst) i.toNat && ((fun i => ((placesOf (getL [] a.G)).getD i (0, 0, 0)).snd.snd) i.toNat == (fun i => ((placesOf (getL [] a.G)).getD i (0, 0, 0)).snd.snd) i.toNat && true))), false), (!((fun i => ((placesOf (getL [] a.G)).getD i (0, 0, 0)).fst) i.toNat == (fun i => ((placesOf (getL [] a.G)).getD i (0, 0, 0)).fst) i.toNat && ((fun i => ((placesOf (getL [] a.G)).getD i (0, 0, 0)).snd.fst) i.toNat == (fun i => ((placesOf (getL [] a.G)).getD i (0, 0, 0)).snd.fst) i.toNat && ((fun i => ((placesOf (getL [] a.G)).getD i (0, 0, 0)).snd.snd) i.toNat == (fun i => ((placesOf (getL [] a.G)).getD i (0, 0, 0)).snd.snd) i.toNat && true))), false), ((a.k.ble 1000000), true), (!((fun i => ((placesOf (getL [] a.G)).getD i (0, 0, 0)).fst) i.toNat == (fun i => ((placesOf (getL [] a.G)).getD i (0, 0, 0)).fst) i.toNat && ((fun i => ((placesOf (getL [] a.G)).getD i (0, 0, 0)).snd.fst) i.toNat == (fun i => ((placesOf (getL [] a.G)).getD i (0, 0, 0)).snd.fst) i.toNat && ((fun i => ((placesOf (getL [] a.G)).getD i (0, 0, 0)).snd.snd) i.toNat == (fun i => ((placesOf (getL [] a.G)).getD i (0, 0, 0)).snd.snd) i.toNat && true))), false), (!((fun i => ((placesOf (getL [] a.G)).getD i (0, 0, 0)).fst) i.toNat == (fun i => ((placesOf (getL [] a.G)).getD i (0, 0, 0)).fst) i.toNat && ((fun i => ((placesOf (getL [] a.G)).getD i (0, 0, 0)).snd.fst) i.toNat == (fun i => ((placesOf (getL [] a.G)).getD i (0, 0, 0)).snd.fst) i.toNat && ((fun i => ((placesOf (getL [] a.G)).getD i (0, 0, 0)).snd.snd) i.toNat == (fun i => ((placesOf (getL [] a.G)).getD i (0, 0, 0)).snd.snd) i.toNat && true))), false), ((decide (0 ≤ i ∧ i < (↑(placesOf (getL [] a.G)).length : Int) ∧ (placesOf (getL [] a.G)).length ≤ (placesOf (getL [] a.G)).length)), true), (!((fun i => ((placesOf (getL [] a.G)).getD i (0, 0, 0)).fst) i.toNat == (fun i => ((placesOf (getL [] a.G)).getD i (0, 0, 0)).fst) i.toNat && ((fun i => ((placesOf (getL [] a.G)).getD i (0, 0, 0)).snd.fst) i.toNat == (fun i => ((placesOf (getL [] a.G)).getD i (0, 0, 0)).snd.fst) i.toNat && ((fun i => ((placesOf (getL [] a.G)).getD i (0, 0, 0)).snd.snd) i.toNat == (fun i => ((placesOf (getL [] a.G)).getD i (0, 0, 0)).snd.snd) i.toNat && true))), false), (!((fun i => ((placesOf (getL [] a.G)).getD i (0, 0, 0)).fst) i.toNat == (fun i => ((placesOf (getL [] a.G)).getD i (0, 0, 0)).fst) i.toNat && ((fun i => ((placesOf (getL [] a.G)).getD i (0, 0, 0)).snd.fst) i.toNat == (fun i => ((placesOf (getL [] a.G)).getD i (0, 0, 0)).snd.fst) i.toNat && ((fun i => ((placesOf (getL [] a.G)).getD i (0, 0, 0)).snd.snd) i.toNat == (fun i => ((placesOf (getL [] a.G)).getD i (0, 0, 0)).snd.snd) i.toNat && true))), false), (!((fun i => ((placesOf (getL [] a.G)).getD i (0, 0, 0)).fst) i.toNat == (fun i => ((placesOf (getL [] a.G)).getD i (0, 0, 0)).fst) i.toNat && ((fun i => ((placesOf (getL [] a.G)).getD i (0, 0, 0)).snd.fst) i.toNat == (fun i => ((placesOf (getL [] a.G)).getD i (0, 0, 0)).snd.fst) i.toNat && ((fun i => ((placesOf (getL [] a.G)).getD i (0, 0, 0)).snd.snd) i.toNat == (fun i => ((placesOf (getL [] a.G)).getD i (0, 0, 0)).snd.snd) i.toNat && true))), false), (!((fun i => ((placesOf (getL [] a.G)).getD i (0, 0, 0)).fst) i.toNat == (fun i => ((placesOf (getL [] a.G)).getD i (0, 0, 0)).fst) i.toNat && ((fun i => ((placesOf (getL [] a.G)).getD i (0, 0, 0)).snd.fst) i.toNat == (fun i => ((placesOf (getL [] a.G)).getD i (0, 0, 0)).snd.fst) i.toNat && ((fun i => ((placesOf (getL [] a.G)).getD i (0, 0, 0)).snd.snd) i.toNat == (fun i => ((placesOf (getL [] a.G)).getD i (0, 0, 0)).snd.snd) i.toNat && true))), false), ((plWfB ((fun i => ((placesOf (getL [] a.G)).getD i (0, 0, 0)).fst) i.toNat, (fun i => ((placesOf (getL [] a.G)).getD i (0, 0, 0)).snd.fst) i.toNat, (fun i => ((placesOf (getL [] a.G)).getD i (0, 0, 0)).snd.snd) i.toNat)), true), (!((fun i => ((placesOf (getL [] a.G)).getD i (0, 0, 0)).fst) i.toNat == (fun i => ((placesOf (getL [] a.G)).getD i (0, 0, 0)).fst) i.toNat && ((fun i => ((placesOf (getL [] a.G)).getD i (0, 0, 0)).snd.fst) i.toNat == (fun i => ((placesOf (getL [] a.G)).getD i (0, 0, 0)).snd.fst) i.toNat && ((fun i => ((placesOf (getL [] a.G)).getD i (0, 0, 0)).snd.snd) i.toNat == (fun i => ((placesOf (getL [] a.G)).getD i (0, 0, 0)).snd.snd) i.toNat && true))), false), (!((fun i => ((placesOf (getL [] a.G)).getD i (0, 0, 0)).fst) i.toNat == (fun i => ((placesOf (getL [] a.G)).getD i (0, 0, 0)).fst) i.toNat && ((fun i => ((placesOf (getL [] a.G)).getD i (0, 0, 0)).snd.fst) i.toNat == (fun i => ((placesOf (getL [] a.G)).getD i (0, 0, 0)).snd.fst) i.toNat && ((fun i => ((placesOf (getL [] a.G)).getD i (0, 0, 0)).snd.snd) i.toNat == (fun i => ((placesOf (getL [] a.G)).getD i (0, 0, 0)).snd.snd) i.toNat && true))), false), ((decide (0 ≤ i ∧ i < (↑(placesOf (getL [] a.G)).length : Int) ∧ (placesOf (getL [] a.G)).length ≤ (placesOf (getL [] a.G)).length)), true), (!((fun i => ((placesOf (getL [] a.G)).getD i (0, 0, 0)).fst) i.toNat == (fun i => ((placesOf (getL [] a.G)).getD i (0, 0, 0)).fst) i.toNat && ((fun i => ((placesOf (getL [] a.G)).getD i (0, 0, 0)).snd.fst) i.toNat == (fun i => ((placesOf (getL [] a.G)).getD i (0, 0, 0)).snd.fst) i.toNat && ((fun i => ((placesOf (getL [] a.G)).getD i (0, 0, 0)).snd.snd) i.toNat == (fun i => ((placesOf (getL [] a.G)).getD i (0, 0, 0)).snd.snd) i.toNat && true))), false), (!((fun i => ((placesOf (getL [] a.G)).getD i (0, 0, 0)).fst) i.toNat == (fun i => ((placesOf (getL [] a.G)).getD i (0, 0, 0)).fst) i.toNat && ((fun i => ((placesOf (getL [] a.G)).getD i (0, 0, 0)).snd.fst) i.toNat == (fun i => ((placesOf (getL [] a.G)).getD i (0, 0, 0)).snd.fst) i.toNat && ((fun i => ((placesOf (getL [] a.G)).getD i (0, 0, 0)).snd.snd) i.toNat == (fun i => ((placesOf (getL [] a.G)).getD i (0, 0, 0)).snd.snd) i.toNat && true))), false), (!((fun i => ((placesOf (getL [] a.G)).getD i (0, 0, 0)).fst) i.toNat == (fun i => ((placesOf (getL [] a.G)).getD i (0, 0, 0)).fst) i.toNat && ((fun i => ((placesOf (getL [] a.G)).getD i (0, 0, 0)).snd.fst) i.toNat == (fun i => ((placesOf (getL [] a.G)).getD i (0, 0, 0)).snd.fst) i.toNat && ((fun i => ((placesOf (getL [] a.G)).getD i (0, 0, 0)).snd.snd) i.toNat == (fun i => ((placesOf (getL [] a.G)).getD i (0, 0, 0)).snd.snd) i.toNat && true))), false), (!((fun i => ((placesOf (getL [] a.G)).getD i (0, 0, 0)).fst) i.toNat == (fun i => ((placesOf (getL [] a.G)).getD i (0, 0, 0)).fst) i.toNat && ((fun i => ((placesOf (getL [] a.G)).getD i (0, 0, 0)).snd.fst) i.toNat == (fun i => ((placesOf (getL [] a.G)).getD i (0, 0, 0)).snd.fst) i.toNat && ((fun i => ((placesOf (getL [] a.G)).getD i (0, 0, 0)).snd.snd) i.toNat == (fun i => ((placesOf (getL [] a.G)).getD i (0, 0, 0)).snd.snd) i.toNat && true))), false), ((decide (0 ≤ i ∧ i < (↑(placesOf (getL [] a.G)).length : Int) ∧ (placesOf (getL [] a.G)).length ≤ (placesOf (getL [] a.G)).length)), true), ((decide (0 ≤ i ∧ i < (↑(placesOf (getL [] a.G)).length : Int) ∧ (placesOf (getL [] a.G)).length ≤ (placesOf (getL [] a.G)).length)), true), ((decide (i < (↑(placesOf (getL [] a.G)).length : Int))), true)]) rfl (by kernel_rfl) ⟨h5, (by rw [h2]; rfl), (by rw [h2]; rfl), h4, (by rw [h2]; rfl), (by rw [h2]; rfl), h1, (by rw [h2]; rfl), (by rw [h2]; rfl), (by rw [h2]; rfl), (by rw [h2]; rfl), h3, (by rw [h2]; rfl), (by rw [h2]; rfl), h1, (by rw [h2]; rfl), (by rw [h2]; rfl), (by rw [h2]; rfl), (by rw [h2]; rfl), h1, h1, h0, trivial⟩ (me_next (a) (IntKind.i64.wrap (i + 1)) (by obtain ⟨i0, i1, hok, hip, hl⟩ := hP; have := of_decide_eq_true h0; have := hok.1; unfold meP; rw [wrapI (by omega) (by omega)]; exact ⟨by omega, by unfold meLen at *; omega, hok, hip, hl⟩) (by obtain ⟨i0, i1, hok, hip, hl⟩ := hP; have := of_decide_eq_true h0; have := hok.1; rw [wrapI (by omega) (by omega)]; unfold meLen at *; omega))
  · exact Tri.pathP mixed libM_ok (n := 10000) (k := 10000) (j := 0) (cfg := meCfg) (o := [some false]) (g' := .out (.out 0)) (fs' := []) (s' := meS (a) (i)) (asks := [((decide (i < (↑(placesOf (getL [] a.G)).length : Int))), false)]) rfl (by kernel_rfl) ⟨h0, trivial⟩ (Tri.fin (me_exit (a) (i)))
theorem me_loop (a : MEA) (i : Int) (hP : meP a i) : Tri repAt Tryz.prog meZ 4 (.go (.loop meL.1)) meL.2 (meS a i) (meQ a) := by
  refine Tri.loop (I := meI a) (fun k s h => ?_) ⟨_, rfl, hP, rfl⟩
  obtain ⟨i, rfl, hP, hk⟩ := h
  exact me_round a i hP hk
theorem me_start (a : MEA) (ha : a.ok) (hf : IsPlaces (getL [] a.G) (placesOf (getL [] a.G)) ∧ (placesOf (getL [] a.G)).length ≤ a.k)  : Tri repAt Tryz.prog meZ 4 (.go (bodyOf Tryz.prog meF)) [] (⟨argsE [.ptr 0 0, .ptr 1 0], meHp a, 4⟩) (meQ a) := by
  have h0 : (a.n.ble 1000000) = true := by (first | exact Nat.ble_eq_true_of_le ha.1 | exact Nat.ble_eq_true_of_le ha.2 | exact bne_self_eq_false _)
  have h1 : (a.k.ble 1000000) = true := by (first | exact Nat.ble_eq_true_of_le ha.1 | exact Nat.ble_eq_true_of_le ha.2 | exact bne_self_eq_false _)
  have h2 : ((↑(placesOf (getL [] a.G)).length : Int) != (↑(placesOf (getL [] a.G)).length : Int)) = false := by (first | exact Nat.ble_eq_true_of_le ha.1 | exact Nat.ble_eq_true_of_le ha.2 | exact bne_self_eq_false _)
  exact Tri.pathP mixed libM_ok (n := 10000) (k := 10000) (j := 0) (cfg := meCfg) (o := [none, none] ++ [some true, some true] ++ [some false]) (g' := .go (.loop meL.1)) (fs' := meL.2) (s' := meS (a) (Int.ofNat 0)) (asks := [(((↑(placesOf (getL [] a.G)).length : Int) != (↑(placesOf (getL [] a.G)).length : Int)), false), ((a.k.ble 1000000), true), ((a.n.ble 1000000), true)]) rfl (by kernel_rfl) ⟨h2, h1, h0, trivial⟩ (me_loop (a) (Int.ofNat 0) ⟨by decide, Int.natCast_nonneg _, ha, hf.1, hf.2⟩)
/-- What memory comes to. -/
noncomputable def meSpec : List SV → List (Nat × Chunk Rep) → Br Rep
  | [.ptr 0 0, .ptr 1 0], [(0, .row [.ptr 2 0] t), (1, .rep (.ucells l g k)), (2, .row [.mp 3, .v (.int .i64 c0), .v (.int .i64 c1), .v (.int .i64 c2), .v (.int .i64 c3), .v (.int .i64 c4)] t'), (3, .rep (.pmap l' g' n))] =>
    match Nat.beq t 153 && Nat.beq t' 176 with
    | true => .need (propB (getL l' g' = getL l g)) (.need (Nat.ble k 1000000 && Nat.ble n 1000000) (.leaf [.v (.bool true)] (meHp ⟨getL l g, k, n, c0, c1, c2, c3, c4⟩)))
    | false => .fail 705
  | _, _ => .fail 704
theorem me_sub : SubOK repAt Tryz.prog meF meSpec := by
  intro args hp
  unfold meSpec
  split
  · next t l g k c0 c1 c2 c3 c4 t' l' g' n =>
    split
    · next ht =>
      intro h h2
      simp only [Bool.and_eq_true] at ht h2
      obtain rfl := Nat.eq_of_beq_eq_true ht.1
      obtain rfl := Nat.eq_of_beq_eq_true ht.2
      have h := of_propB h
      refine ⟨_, _, Tryz.func24, rfl, Nat.le_of_ble_eq_true (by kernel_rfl), ?_⟩
      refine Tri.view (swap_view (n := 1) (c1 := .rep (.ucells [] (getL l g) k)) rfl fun B ρ own w e he hat => ⟨own, hat, fun b hb => hb⟩) ?_
      refine Tri.view (swap_view (n := 3) (c1 := .rep (.pmap [] (getL l g) n)) rfl fun B ρ own w e he hat => ⟨own, by rw [← h]; exact hat, fun b hb => hb⟩) ?_
      refine Tri.know (φ := IsPlaces (getL [] (getL l g)) (placesOf (getL [] (getL l g))) ∧ (placesOf (getL [] (getL l g))).length ≤ k) (fun B ρ own w hs => stand_fin (k := 1) hs rfl) (fun hf => ?_)
      exact me_start ⟨getL l g, k, n, c0, c1, c2, c3, c4⟩ ⟨Nat.le_of_ble_eq_true h2.1, Nat.le_of_ble_eq_true h2.2⟩ hf
    · trivial
  · trivial
end Go.Proofs.YtpaiejeipghehaaGreat
end
section
/- Runs cut at a region of the text too: a run from point to point goes up to a region of a given number, or to a loop. Condition: the program follows the looser reading of Go's order. -/
namespace Go.Proofs.YtpaiejeipghehaaGreat

section
variable {R : Type} (P : Program)
/-- As stepC, but ahead of region tgt it stops. -/
def stepR (lib : Lib R) (n sz tgt : Nat) : Nat → Nat → Goer → List Fr → Env → M R (Goer × List Fr × Env)
  | 0, _, _, _, _ => .fail 190
  | k + 1, j, .go c, fs, e => match c with
    | .seq a b => stepR lib n sz tgt k j (.go a) (.sq b :: fs) e
    | .block id c => stepR lib n sz tgt k j (.go c) (.bk id :: fs) e
    | .cond x a b => (M.opt 191 (evX e x)).bind fun
      | .v (.bool t) => (askB t).bind fun
        | true => stepR lib n sz tgt k j (.go a) fs e
        | false => stepR lib n sz tgt k j (.go b) fs e
      | _ => .fail 192
    | .loop c => match j with
      | 0 => .ret (.go (.loop c), fs, e)
      | j' + 1 => (runX P lib n sz (.loop c) e).bind fun r => stepR lib n sz tgt k j' (.out r.1) fs r.2
    | .region id ops d => match Nat.beq id tgt with
      | true => .ret (.go (.region id ops d), fs, e)
      | false => (runX P lib n sz (.region id ops d) e).bind fun r => stepR lib n sz tgt k j (.out r.1) fs r.2
    | c => (runX P lib n sz c e).bind fun r => stepR lib n sz tgt k j (.out r.1) fs r.2
  | k + 1, j, .out x, fs, e => match fs with
    | [] => .ret (.out x, [], e)
    | .sq b :: fs => match x with
      | .nor => stepR lib n sz tgt k j (.go b) fs e
      | x => stepR lib n sz tgt k j (.out x) fs e
    | .bk id :: fs => match x with
      | .out i => match Nat.beq i id with
        | true => stepR lib n sz tgt k j (.out .nor) fs e
        | false => stepR lib n sz tgt k j (.out (.out i)) fs e
      | x => stepR lib n sz tgt k j (.out x) fs e
variable {P} {A : RepAt R} {lib : Lib R} {n sz tgt : Nat} {st st1 st' : St R}

def StepR (A : RepAt R) (P : Program) (sz : Nat) (g : Goer) (fs : List Fr) (e : Env) (st st' : St R) (r : Goer × List Fr × Env) : Prop := Fn st st' ∧ ∀ B F ρ own w a, Sit A P B F st st' ρ own w → EnvR ρ e a → a.tmps.size = sz →
  ∀ (Q : Exit → Act → World → Prop), (∀ a' ρ' own' w', Tr A P B F st st' ρ own w ρ' own' w' → EnvR ρ' r.2.2 a' → a'.tmps.size = sz → a'.defers = a.defers → goWp P r.1 r.2.1 Q a' w') → goWp P g fs Q a w

theorem StepR.run {c : Code} {fs : List Fr} {e e1 : Env} {x : Ex} {r : Goer × List Fr × Env} (h1 : CodeS A P sz (fun Q a w => c.wp P Q a w) e st st1 (x, e1)) (h2 : StepR A P sz (.out x) fs e1 st1 st' r) : StepR A P sz (.go c) fs e st st' r := by
  refine ⟨h1.1.trans h2.1, fun B F ρ own w a si he hz Q hk => ?_⟩
  refine h1.2 B F ρ own w a (si.head h1.1 h2.1) he hz _ (fun a1 ρ1 own1 w1 t1 he1 hz1 hd1 => ?_)
  exact h2.2 B _ ρ1 own1 w1 a1 (si.next h1.1 h2.1 t1) he1 hz1 Q (fun a' ρ' own' w' t2 he2 hz2 hd2 => hk a' ρ' own' w' (t1.trans t2 h1.1 h2.1 (h1.1.wf si.wf)) he2 hz2 (hd2.trans hd1))
theorem StepR.here {g : Goer} {fs : List Fr} {e : Env} : StepR A P sz g fs e st st (g, fs, e) :=
  ⟨Fn.refl _, fun _ _ ρ own w a si he hz _ hk => hk a ρ own w (si.quiet (Quiet.refl _)) he hz rfl⟩

theorem stepR_s (hm : P.follows .mixedOrders = true) (hp : LibOK A P lib) : ∀ {k j : Nat} {g : Goer} {fs : List Fr} {e : Env} {st st' : St R} {r : Goer × List Fr × Env}, stepR P lib n sz tgt k j g fs e st = .ok r st' → StepR A P sz g fs e st st' r
  | 0, _, _, _, _, _, _, _, h => (fail_ok.1 h).elim
  | k + 1, j, .go c, fs, e, st, st', r, h => by
    have hr := (run_s hm hp n).1
    have plain : ∀ {c : Code} {j' : Nat}, (runX P lib n sz c e).bind (fun r => stepR P lib n sz tgt k j' (.out r.1) fs r.2) st = .ok r st' → StepR A P sz (.go c) fs e st st' r := by
      intro c j' h
      obtain ⟨⟨x, e1⟩, st1, h1, h2⟩ := bind_ok.1 h
      exact StepR.run (hr _ _ _ _ _ _ h1) (stepR_s hm hp h2)
    unfold stepR at h
    split at h
    · next a b =>
      obtain ⟨hf, hs⟩ := stepR_s hm hp h
      exact ⟨hf, fun B F ρ own w a si he hz Q hk => wp_seq (hs B F ρ own w a si he hz Q hk)⟩
    · next id c =>
      obtain ⟨hf, hs⟩ := stepR_s hm hp h
      exact ⟨hf, fun B F ρ own w a si he hz Q hk => wp_block (hs B F ρ own w a si he hz Q hk)⟩
    · next x a b =>
      obtain ⟨s, _, h1, h2⟩ := bind_ok.1 h
      obtain ⟨hs, rfl⟩ := opt_ok.1 h1
      split at h2
      · next t =>
        obtain ⟨o, st1, h3, h4⟩ := bind_ok.1 h2
        obtain ⟨q, hq⟩ := ask_ok h3
        have key : ∀ {z : Code}, stepR P lib n sz tgt k j (.go z) fs e st1 = .ok r st' → ((∀ p ∈ st'.ask, p.1 = p.2) → (if t = true then a else b) = z) → StepR A P sz (.go (.cond x a b)) fs e st st' r := by
          intro z hz hsel
          have g := stepR_s hm hp hz
          refine ⟨q.fn.trans g.1, fun B F ρ own w a' si he hsz Q hk => ?_⟩
          have ev := he.ev _ _ hs
          simp only [den, Option.some.injEq] at ev
          refine wp_cond ev.symm ?_
          rw [hsel si.ask]
          exact g.2 B F ρ own w a' (si.of_quiet q) he hsz Q (fun a' ρ' own' w' t' => hk a' ρ' own' w' (Tr.of_quiet q t'))
        cases o with
        | true =>
          refine key h4 (fun ha => ?_)
          rw [hq (fun p hx => ha p ((stepR_s hm hp h4).1.ask p hx)), if_pos rfl]
        | false =>
          refine key h4 (fun ha => ?_)
          rw [hq (fun p hx => ha p ((stepR_s hm hp h4).1.ask p hx))]
          rfl
      · exact (fail_ok.1 h2).elim
    · next c =>
      cases j with
      | zero =>
        obtain ⟨rfl, rfl⟩ := ret_ok.1 h
        exact StepR.here
      | succ j => exact plain h
    · next id ops d =>
      cases hb : Nat.beq id tgt with
      | true =>
        rw [hb] at h
        obtain ⟨rfl, rfl⟩ := ret_ok.1 h
        exact StepR.here
      | false =>
        rw [hb] at h
        exact plain h
    · exact plain h
  | k + 1, j, .out x, fs, e, st, st', r, h => by
    unfold stepR at h
    split at h
    · obtain ⟨rfl, rfl⟩ := ret_ok.1 h
      exact StepR.here
    · next b fs =>
      split at h
      · obtain ⟨hf, hs⟩ := stepR_s hm hp h
        exact ⟨hf, fun B F ρ own w a si he hz Q hk => hs B F ρ own w a si he hz Q hk⟩
      · next hx =>
        obtain ⟨hf, hs⟩ := stepR_s hm hp h
        refine ⟨hf, fun B F ρ own w a si he hz Q hk => ?_⟩
        have := hs B F ρ own w a si he hz Q hk
        cases x with
        | nor => exact absurd rfl hx
        | ret => exact this
        | out i => exact this
    · next id fs =>
      cases x with
      | out i =>
        simp only at h
        cases hb : Nat.beq i id with
        | true =>
          rw [hb] at h
          have hid := Nat.eq_of_beq_eq_true hb
          subst hid
          obtain ⟨hf, hs⟩ := stepR_s hm hp h
          refine ⟨hf, fun B F ρ own w a si he hz Q hk => ?_⟩
          have := hs B F ρ own w a si he hz Q hk
          simpa [goWp, wpF, Exit.inBlock, Ex.exit] using this
        | false =>
          rw [hb] at h
          have hid := Nat.ne_of_beq_eq_false hb
          obtain ⟨hf, hs⟩ := stepR_s hm hp h
          refine ⟨hf, fun B F ρ own w a si he hz Q hk => ?_⟩
          have := hs B F ρ own w a si he hz Q hk
          simpa [goWp, wpF, Exit.inBlock, Ex.exit, hid] using this
      | nor =>
        obtain ⟨hf, hs⟩ := stepR_s hm hp h
        exact ⟨hf, fun B F ρ own w a si he hz Q hk => hs B F ρ own w a si he hz Q hk⟩
      | ret =>
        obtain ⟨hf, hs⟩ := stepR_s hm hp h
        exact ⟨hf, fun B F ρ own w a si he hz Q hk => hs B F ρ own w a si he hz Q hk⟩

variable {pin : Nat} {g g' : Goer} {fs fs' : List Fr} {s s' : Sym R} {Q : Ex → Sym R → Prop}
theorem Tri.runR (hm : P.follows .mixedOrders = true) (hl : LibOK A P lib) {k j : Nat} {o : List (Option Bool)} {r : Goer × List Fr × Env} {st' : St R} (h : stepR P lib n sz tgt k j g fs s.e ⟨s.hp, s.nx, [], [], [], o⟩ = .ok r st') (ha : ∀ p ∈ st'.ask, p.1 = p.2) (hpin : pin ≤ s.nx)
    (ht : Tri A P sz pin r.1 r.2.1 ⟨r.2.2, st'.hp, st'.nx⟩ Q) : Tri A P sz pin g fs s Q := by
  obtain ⟨hf, hs⟩ := stepR_s hm hl h
  intro B ρ own w a hst he hz K hk
  have hwf : Wf (⟨s.hp, s.nx, [], [], [], o⟩ : St R) := ⟨(fun n hn => by cases hn), hst.top⟩
  have hwf' := hf.wf hwf
  refine hs B (fun _ => True) ρ own w a ⟨fun _ _ => trivial, hwf, fun n hn => hst.fresh n hn.1, hst.li, ha, hst.base⟩ he hz K (fun a1 ρ1 own1 w1 t1 he1 hz1 hd1 => ?_)
  have old : ∀ m, m ∈ st'.wr → ¬ newN (⟨s.hp, s.nx, [], [], [], o⟩ : St R) st' m → ∃ c, hget m s.hp = some c := fun m hm hn => by
    rcases hf.al m hm with h1 | h1 | h1
    · cases h1
    · exact absurd ⟨h1, (hwf'.wr m hm).2⟩ hn
    · exact h1
  have way : Way s.hp own w st'.hp own1 w1 := by
    refine ⟨t1.mod.mono fun b _ ⟨m, h1, h2, h3⟩ => ?_, fun n c hc b hb => ?_⟩
    · obtain ⟨c, hc⟩ := old m h1 h2
      exact ⟨m, c, hc, h3⟩
    · by_cases h1 : newN (⟨s.hp, s.nx, [], [], [], o⟩ : St R) st' n ∨ n ∈ st'.wr
      · rcases t1.pool n h1 b hb with h2 | ⟨m, h2, h3, h4⟩
        · exact .inl h2
        · obtain ⟨d, hd⟩ := old m h2 h3
          exact .inr ⟨m, d, hd, h4⟩
      · rw [not_or] at h1
        rw [t1.same n h1.1 h1.2] at hb
        have hlt := hwf'.lt hc
        have h2 : n < s.nx := by
          rcases Nat.lt_or_ge n s.nx with h | h
          · exact h
          · exact absurd ⟨h, hlt⟩ h1.1
        exact .inr ⟨n, c, (hf.hp n h1.2 h2).symm.trans hc, hb⟩
  refine ht B ρ1 own1 w1 a1 ⟨t1.li.sub fun _ _ => .inl trivial, hwf'.top, fun n hn => ?_, Nat.le_trans hst.base t1.mod.size⟩ he1 hz1 K (fun x s2 ρ2 own2 w2 a2 hq h2 he2 hz2 hd2 hw2 hp2 => hk x s2 ρ2 own2 w2 a2 hq h2 he2 hz2 (hd2.trans hd1) (way.trans hw2) (fun n hn => ?_))
  · simp only at hn
    rw [t1.out n (fun h => by have := h.2; omega)]
    exact hst.fresh n (Nat.le_trans hf.nx hn)
  · rw [hp2 n hn, t1.out n (fun h => by have h1 := h.1; simp only at h1; omega)]
/-- The regions of a text, each with what stands round it. -/
def cutsC : Code → List Fr → List (Nat × Code × List Fr)
  | .seq a b, fs => cutsC a (.sq b :: fs) ++ cutsC b fs
  | .block id c, fs => cutsC c (.bk id :: fs)
  | .cond _ a b, fs => cutsC a fs ++ cutsC b fs
  | .region id ops d, fs => [(id, .region id ops d, fs)]
  | _, _ => []
def cutAt (tgt : Nat) : List (Nat × Code × List Fr) → Code × List Fr
  | [] => (.skip, [])
  | (id, c, fs) :: r => match Nat.beq id tgt with
    | true => (c, fs)
    | false => cutAt tgt r
/-- Region tgt within a text. -/
def cutIn (c : Code) (tgt : Nat) : Code × List Fr := cutAt tgt (cutsC c [])
end
section
variable {P : Program}
/-- Kinds of ends, for a choice of what is seen how. -/
def pathR (P : Program) (lib : Lib Rep) (tgt n sz k j : Nat) (cfg : Goer → List Gen × List Nat) (g : Goer) (fs : List Fr) (s : Sym Rep) (o : List (Option Bool)) : Option (Goer × List Fr × Sym Rep × List (Bool × Bool)) := match stepR P lib n sz tgt k j g fs s.e ⟨s.hp, s.nx, [], [], [], o⟩ with
  | .ok (g', fs', e) st => match normX P (cfg g').1 [] (cfg g').2 ⟨e, st.hp, st.nx⟩ with
    | some s' => some (g', fs', s', st.ask)
    | none => none
  | .no _ _ => none
theorem Tri.pathR {lib : Lib Rep} {tgt n sz k j : Nat} {g g' : Goer} {fs fs' : List Fr} {s s' : Sym Rep} {Q : Ex → Sym Rep → Prop} (hm : P.follows .mixedOrders = true) (hl : LibOK repAt P lib) {cfg : Goer → List Gen × List Nat} {o : List (Option Bool)} {asks : List (Bool × Bool)} (h : pathR P lib tgt n sz k j cfg g fs s o = some (g', fs', s', asks)) (ha : AllAsk asks)
    (ht : Tri repAt P sz 0 g' fs' s' Q) : Tri repAt P sz 0 g fs s Q := by
  unfold Go.Proofs.YtpaiejeipghehaaGreat.pathR at h
  split at h
  · next g1 fs1 e1 st hr =>
    split at h
    · next s1 hs =>
      simp only [Option.some.injEq, Prod.mk.injEq] at h
      obtain ⟨rfl, rfl, rfl, rfl⟩ := h
      exact Tri.runR hm hl hr ha.all (Nat.zero_le _) (Tri.view (norm_view hs) ht)
    · cases h
  · cases h
end
end Go.Proofs.YtpaiejeipghehaaGreat
end
section
/- nodes of the laws of layer 15: the states at its loop's head, and what it keeps. No condition. -/
namespace Go.Proofs.YtpaiejeipghehaaGreat
noncomputable abbrev ndF : FuncId := 8
noncomputable abbrev ndZ : Nat := slotsOf Tryz.prog ndF
noncomputable def ndL : Code × List Fr := loopOf Tryz.prog ndF 0
structure NA where
  S : Nat → Int
  K : Nat → Int
  V : Nat → Int
  M : Nat → Bool
  len : Nat
def ndSlot (s : Int) : Int := IntKind.i64.wrap (1 + IntKind.i64.wrap ((IntKind.u64.wrap s).tmod 1000))
structure Nd where
  S : Int
  K : Int
  V : Int
  M : Bool
def ndD : Nd := ⟨0, 0, 0, false⟩
def NA.at (a : NA) (k : Nat) : Nd := ⟨ndSlot (a.S k), a.K k, a.V k, a.M k⟩
/-- What is kept of the first rows. -/
def NA.row (a : NA) : Nat → List Nd
  | 0 => []
  | k + 1 => if (a.row k).any (fun x => x.S == ndSlot (a.S k)) = true then a.row k else a.row k ++ [a.at k]
def NA.out (a : NA) : List Nd := a.row (min a.len 40)
def ndCols (L : List Nd) : List Col := [.int .i64 fun i => (L.getD i ndD).S, .int .u64 fun i => (L.getD i ndD).K, .int .u64 fun i => (L.getD i ndD).V, .bool fun i => (L.getD i ndD).M]
def ndArg (a : NA) : Nat × Chunk Rep := (0, .rep (.tab [.int .i64 a.S, .int .u64 a.K, .int .u64 a.V, .bool a.M] a.len))
def ndS (a : NA) (i : Int) (OS OK OV : Nat → Int) (OM : Nat → Bool) (n : Nat) (Z : Nat → Bool) : Sym Rep :=
  ⟨[(3, .tsl 1 n), (4, .ptr 2 0), (0, .tsl 0 a.len), (5, iv i)], [(0, .rep (.tab [.int .i64 a.S, .int .u64 a.K, .int .u64 a.V, .bool a.M] a.len)), (1, .rep (.vec [.int .i64 OS, .int .u64 OK, .int .u64 OV, .bool OM] n 105)), (2, .rep (.vec [.bool Z] 1001 111))], 3⟩
def ndCfg0 : Stop → List Gen × List Nat := fun _ => ([.row 1 0 [.int .i64, .int .u64, .int .u64, .bool], .arr 2 1001 [.bool]], [3, 4, 0, 5])
def ndCfg : Stop → List Gen × List Nat := fun _ => ([], [3, 4, 0, 5])
def ndCfg2 : Stop → List Gen × List Nat := fun _ => ([], [2])
def ndP (a : NA) (i : Int) (OS OK OV : Nat → Int) (OM : Nat → Bool) (n : Nat) (Z : Nat → Bool) : Prop :=
  0 ≤ i ∧ i ≤ (a.len : Int) ∧ i ≤ 40 ∧ n = (a.row i.toNat).length ∧ n ≤ i.toNat ∧ (∀ j, j < n → (⟨OS j, OK j, OV j, OM j⟩ : Nd) = (a.row i.toNat).getD j ndD) ∧ ∀ j : Nat, Z j = (a.row i.toNat).any (fun x => x.S == (j : Int))
def ndHp (L : List Nd) (a : NA) : List (Nat × Chunk Rep) := [ndArg a, (1, .rep (.vec (ndCols L) L.length 105))]
abbrev ndQ (a : NA) : Ex → Sym Rep → Prop := Ends Tryz.prog Tryz.f8 fun l s => l = [.tsl 1 a.out.length] ∧ s.hp = ndHp a.out a
theorem ndSlot_le (s : Int) : 1 ≤ ndSlot s ∧ ndSlot s ≤ 1000 := by
  unfold ndSlot
  have hw := wrapU_pos s
  rw [Int.tmod_eq_emod_of_nonneg hw.1, wrapI (x := _ % 1000) (by omega) (by omega), wrapI (by omega) (by omega)]
  omega
theorem nd_push {a : NA} {i : Int} {OS OK OV : Nat → Int} {OM : Nat → Bool} {n : Nat} {Z : Nat → Bool} (hP : ndP a i OS OK OV OM n Z) (h0 : decide (i < (a.len : Int)) = true) (h1 : decide (i < 40) = true) (h4 : Z (ndSlot (a.S i.toNat)).toNat = false) :
    ndP a (IntKind.i64.wrap (i + 1)) (joinI OS n fun _ => ndSlot (a.S i.toNat)) (joinI OK n fun _ => a.K i.toNat) (joinI OV n fun _ => a.V i.toNat) (joinI OM n fun _ => a.M i.toNat) (n + 1) (updI Z (ndSlot (a.S i.toNat)).toNat true) := by
  obtain ⟨i0, i1, i2, hn, hni, hr, hz⟩ := hP
  have e0 := of_decide_eq_true h0
  have e1 := of_decide_eq_true h1
  have hs := ndSlot_le (a.S i.toNat)
  have hi : (IntKind.i64.wrap (i + 1)).toNat = i.toNat + 1 := by rw [wrapI (by omega) (by omega)]; omega
  have hc : ((ndSlot (a.S i.toNat)).toNat : Int) = ndSlot (a.S i.toNat) := by omega
  have hrow : a.row (i.toNat + 1) = a.row i.toNat ++ [a.at i.toNat] := by
    rw [hz, hc] at h4
    simp only [NA.row, h4]
    rfl
  rw [ndP, hi, hrow, wrapI (by omega) (by omega)]
  refine ⟨by omega, by omega, by omega, by simp [hn], by omega, fun j hj => ?_, fun j => ?_⟩
  · by_cases e : j < n
    · rw [joinI_old e, joinI_old e, joinI_old e, joinI_old e, hr j e]
      simp only [List.getD, List.getElem?_append_left (show j < (a.row i.toNat).length by omega)]
    · obtain rfl : j = n := by omega
      rw [joinI_new (Nat.le_refl _), joinI_new (Nat.le_refl _), joinI_new (Nat.le_refl _), joinI_new (Nat.le_refl _)]
      simp only [List.getD, hn, List.getElem?_concat_length, Option.getD_some]
      rfl
  · rw [List.any_append]
    by_cases e : j = (ndSlot (a.S i.toNat)).toNat
    · subst e
      rw [updI_same]
      simp [NA.at, hc]
    · rw [updI_other e, hz j]
      have : (ndSlot (a.S i.toNat) == (j : Int)) = false := by rw [beq_eq_false_iff_ne]; omega
      simp [NA.at, this]
theorem nd_skip {a : NA} {i : Int} {OS OK OV : Nat → Int} {OM : Nat → Bool} {n : Nat} {Z : Nat → Bool} (hP : ndP a i OS OK OV OM n Z) (h0 : decide (i < (a.len : Int)) = true) (h1 : decide (i < 40) = true) (h4 : Z (ndSlot (a.S i.toNat)).toNat = true) :
    ndP a (IntKind.i64.wrap (i + 1)) OS OK OV OM n Z := by
  obtain ⟨i0, i1, i2, hn, hni, hr, hz⟩ := hP
  have e0 := of_decide_eq_true h0
  have e1 := of_decide_eq_true h1
  have hs := ndSlot_le (a.S i.toNat)
  have hi : (IntKind.i64.wrap (i + 1)).toNat = i.toNat + 1 := by rw [wrapI (by omega) (by omega)]; omega
  have hc : ((ndSlot (a.S i.toNat)).toNat : Int) = ndSlot (a.S i.toNat) := by omega
  have hrow : a.row (i.toNat + 1) = a.row i.toNat := by
    rw [hz, hc] at h4
    simp only [NA.row, h4]
    rfl
  rw [ndP, hi, hrow, wrapI (by omega) (by omega)]
  exact ⟨by omega, by omega, by omega, hn, by omega, hr, hz⟩
theorem nd_less {a : NA} {i : Int} {OS OK OV : Nat → Int} {OM : Nat → Bool} {n : Nat} {Z : Nat → Bool} (hP : ndP a i OS OK OV OM n Z) (h1 : decide (i < 40) = true) {r : Nat} (hr : r = 40 - i.toNat) : 40 - (IntKind.i64.wrap (i + 1)).toNat < r := by
  obtain ⟨i0, i1, i2, _⟩ := hP
  have e1 := of_decide_eq_true h1
  rw [wrapI (by omega) (by omega)]
  omega
theorem nd_over {a : NA} {i : Int} {OS OK OV : Nat → Int} {OM : Nat → Bool} {n : Nat} {Z : Nat → Bool} (hP : ndP a i OS OK OV OM n Z) (h : decide (i < (a.len : Int)) = false ∨ decide (i < 40) = false) : n = a.out.length ∧ ∀ j, j < n → colsF [.int .i64 OS, .int .u64 OK, .int .u64 OV, .bool OM] j = colsF (ndCols a.out) j := by
  obtain ⟨i0, i1, i2, hn, hni, hr, hz⟩ := hP
  have : i.toNat = min a.len 40 := by
    rcases h with h | h <;> have := of_decide_eq_false h <;> omega
  rw [this] at hn hr
  refine ⟨hn, fun j hj => ?_⟩
  have := hr j hj
  simp only [ndCols, colsF, Col.at, NA.out, ← this]
theorem nd_fin (a : NA) {OS OK OV : Nat → Int} {OM : Nat → Bool} {n : Nat} (h : n = a.out.length ∧ ∀ j, j < n → colsF [.int .i64 OS, .int .u64 OK, .int .u64 OV, .bool OM] j = colsF (ndCols a.out) j) :
    Tri repAt Tryz.prog ndZ 1 (.out .ret) [] ⟨[(2, .tsl 1 n)], [(0, .rep (.tab [.int .i64 a.S, .int .u64 a.K, .int .u64 a.V, .bool a.M] a.len)), (1, .rep (.vec [.int .i64 OS, .int .u64 OK, .int .u64 OV, .bool OM] n 105))], 2⟩ (ndQ a) := by
  obtain ⟨rfl, h⟩ := h
  refine Tri.view (vec_view (n := 1) (cs' := ndCols a.out) rfl rfl h) (Tri.fin (Ends.of (t := 2) (by kernel_rfl) (.inl rfl) rfl ⟨rfl, rfl⟩))
/-- What is kept: different slots from 1 to 1000, 40 at most. -/
theorem NA.row_ok (a : NA) : ∀ k, (a.row k).length ≤ k ∧ (∀ x ∈ a.row k, 1 ≤ x.S ∧ x.S ≤ 1000) ∧ (a.row k).Pairwise (fun x y => x.S ≠ y.S)
  | 0 => ⟨Nat.le_refl _, (fun _ h => by cases h), List.Pairwise.nil⟩
  | k + 1 => by
    obtain ⟨h1, h2, h3⟩ := a.row_ok k
    simp only [NA.row]
    split
    · exact ⟨by omega, h2, h3⟩
    · next hc =>
      refine ⟨by simp; omega, fun x hx => ?_, List.pairwise_append.2 ⟨h3, by simp, fun x hx y hy => ?_⟩⟩
      · rcases List.mem_append.1 hx with hx | hx
        · exact h2 x hx
        · rw [List.mem_singleton] at hx
          subst hx
          exact ndSlot_le _
      · rw [List.mem_singleton] at hy
        subst hy
        intro e
        exact hc (List.any_eq_true.2 ⟨x, hx, by simp [e, NA.at]⟩)
theorem NA.out_ok (a : NA) : a.out.length ≤ 40 ∧ (∀ x ∈ a.out, 1 ≤ x.S ∧ x.S ≤ 1000) ∧ a.out.Pairwise (fun x y => x.S ≠ y.S) := by
  obtain ⟨h1, h2, h3⟩ := a.row_ok (min a.len 40)
  exact ⟨by unfold NA.out; omega, h2, h3⟩
end Go.Proofs.YtpaiejeipghehaaGreat
end
section
/- nodes of the laws of layer 15: its runs from point to point. No condition. -/
namespace Go.Proofs.YtpaiejeipghehaaGreat
set_option linter.unusedVariables false
set_option linter.unusedSimpArgs false
set_option maxRecDepth 100000
set_option maxHeartbeats 8000000
def ndI (a : NA) (r : Nat) (s : Sym Rep) : Prop := ∃ (i : Int) (OS OK OV : Nat → Int) (OM : Nat → Bool) (n : Nat) (Z : Nat → Bool), s = ndS a i OS OK OV OM n Z ∧ ndP a i OS OK OV OM n Z ∧ r = 40 - i.toNat
abbrev ndR (a : NA) (r : Nat) (x : Ex) (s : Sym Rep) : Prop := match x with
  | .nor => ∃ k', k' < r ∧ ndI a k' s
  | x => Tri repAt Tryz.prog ndZ 1 (.out x) ndL.2 s (ndQ a)
theorem nd_next (a : NA) (i : Int) (OS OK OV : Nat → Int) (OM : Nat → Bool) (n : Nat) (Z : Nat → Bool) {r : Nat} (hP : ndP a i OS OK OV OM n Z) (hk : 40 - i.toNat < r) : Tri repAt Tryz.prog ndZ 1 (.out .nor) [] (ndS a i OS OK OV OM n Z) (ndR a r) := Tri.fin ⟨_, hk, i, OS, OK, OV, OM, n, Z, rfl, hP, rfl⟩

theorem nd_exit (a : NA) (i : Int) (OS OK OV : Nat → Int) (OM : Nat → Bool) (n : Nat) (Z : Nat → Bool) (h : n = a.out.length ∧ ∀ j, j < n → colsF [.int .i64 OS, .int .u64 OK, .int .u64 OV, .bool OM] j = colsF (ndCols a.out) j)  : Tri repAt Tryz.prog ndZ 1 (.out (.out 0)) ndL.2 (ndS a i OS OK OV OM n Z) (ndQ a) := by
  exact Tri.pathP mixed lib0_ok (n := 10000) (k := 10000) (j := 0) (cfg := ndCfg2) (o := []) (g' := .out .ret) (fs' := []) (s' := ⟨[(2, SV.tsl 1 n)], [(0, Chunk.rep (Rep.tab [Col.int IntKind.i64 a.S, Col.int IntKind.u64 a.K, Col.int IntKind.u64 a.V, Col.bool a.M] a.len)), (1, Chunk.rep (Rep.vec [Col.int IntKind.i64 OS, Col.int IntKind.u64 OK, Col.int IntKind.u64 OV, Col.bool OM] n 105))], 2⟩) (asks := []) rfl (by kernel_rfl) trivial (nd_fin a h)
theorem nd_round (a : NA) (i : Int) (OS OK OV : Nat → Int) (OM : Nat → Bool) (n : Nat) (Z : Nat → Bool) (hP : ndP a i OS OK OV OM n Z) {r : Nat} (hr : r = 40 - i.toNat) : Tri repAt Tryz.prog ndZ 1 (.go ndL.1) [] (ndS a i OS OK OV OM n Z) (ndR a r) := by
  rcases Bool.eq_false_or_eq_true (decide (i < (↑a.len : Int))) with h0 | h0
  · rcases Bool.eq_false_or_eq_true (decide (i < 40)) with h1 | h1
    · have h2 : (decide (0 ≤ i ∧ i < (↑a.len : Int) ∧ a.len ≤ a.len)) = true := by (obtain ⟨i0, i1, i2, hn, hni, hr, hz⟩ := hP; have hs := ndSlot_le (a.S i.toNat); first | exact decide_eq_true ⟨i0, of_decide_eq_true h0, Nat.le_refl _⟩ | exact decide_eq_true ⟨Int.le_trans (by decide) hs.1, Int.lt_of_le_of_lt hs.2 (by decide), Nat.le_refl _⟩ | (show decide (n ≤ n ∧ _ * _ ≤ 140737488351232) = true; refine Eq.trans (b := decide (n ≤ n ∧ (n + 1) * 32 ≤ 140737488351232)) (by kernel_rfl) (by simp only [decide_eq_true_eq]; omega)))
      have h3 : (decide (0 ≤ IntKind.i64.wrap (1 + IntKind.i64.wrap ((IntKind.u64.wrap (a.S i.toNat)).tmod 1000)) ∧ IntKind.i64.wrap (1 + IntKind.i64.wrap ((IntKind.u64.wrap (a.S i.toNat)).tmod 1000)) < (↑1001 : Int) ∧ 1001 ≤ 1001)) = true := by (obtain ⟨i0, i1, i2, hn, hni, hr, hz⟩ := hP; have hs := ndSlot_le (a.S i.toNat); first | exact decide_eq_true ⟨i0, of_decide_eq_true h0, Nat.le_refl _⟩ | exact decide_eq_true ⟨Int.le_trans (by decide) hs.1, Int.lt_of_le_of_lt hs.2 (by decide), Nat.le_refl _⟩ | (show decide (n ≤ n ∧ _ * _ ≤ 140737488351232) = true; refine Eq.trans (b := decide (n ≤ n ∧ (n + 1) * 32 ≤ 140737488351232)) (by kernel_rfl) (by simp only [decide_eq_true_eq]; omega)))
      rcases Bool.eq_false_or_eq_true (Z (IntKind.i64.wrap (1 + IntKind.i64.wrap ((IntKind.u64.wrap (a.S i.toNat)).tmod 1000))).toNat) with h4 | h4
      · exact Tri.pathP mixed lib0_ok (n := 10000) (k := 10000) (j := 0) (cfg := ndCfg) (o := List.replicate 6 (some true) ++ [some false]) (g' := .out .nor) (fs' := []) (s' := ndS (a) (IntKind.i64.wrap (i + 1)) (OS) (OK) (OV) (OM) (n) (Z)) (asks := [(!(Z (IntKind.i64.wrap (1 + IntKind.i64.wrap ((IntKind.u64.wrap (a.S i.toNat)).tmod 1000))).toNat), false), ((decide (0 ≤ IntKind.i64.wrap (1 + IntKind.i64.wrap ((IntKind.u64.wrap (a.S i.toNat)).tmod 1000)) ∧ IntKind.i64.wrap (1 + IntKind.i64.wrap ((IntKind.u64.wrap (a.S i.toNat)).tmod 1000)) < (↑1001 : Int) ∧ 1001 ≤ 1001)), true), ((decide (0 ≤ i ∧ i < (↑a.len : Int) ∧ a.len ≤ a.len)), true), ((decide (i < 40)), true), ((decide (i < (↑a.len : Int))), true), ((decide (i < (↑a.len : Int))), true), ((decide (i < (↑a.len : Int))), true)]) rfl (by kernel_rfl) ⟨(by rw [h4]; rfl), h3, h2, h1, h0, h0, h0, trivial⟩ (nd_next (a) (IntKind.i64.wrap (i + 1)) (OS) (OK) (OV) (OM) (n) (Z) (by first | exact nd_push hP h0 h1 h4 | exact nd_skip hP h0 h1 h4) (nd_less hP h1 hr))
      · have h5 : (decide (n ≤ n ∧ (n + (1, List.map constC ((fun l => Value.int IntKind.i64 (IntKind.i64.wrap (1 + IntKind.i64.wrap ((IntKind.u64.wrap (a.S i.toNat)).tmod 1000))) :: l) ((fun l => (Col.int IntKind.u64 a.K).at i.toNat :: l) ((fun l => (Col.int IntKind.u64 a.V).at i.toNat :: l) ((fun l => (Col.bool a.M).at i.toNat :: l) []))))).fst) * Tryz.prog.types[105].bytes ≤ 140737488351232)) = true := by (obtain ⟨i0, i1, i2, hn, hni, hr, hz⟩ := hP; have hs := ndSlot_le (a.S i.toNat); first | exact decide_eq_true ⟨i0, of_decide_eq_true h0, Nat.le_refl _⟩ | exact decide_eq_true ⟨Int.le_trans (by decide) hs.1, Int.lt_of_le_of_lt hs.2 (by decide), Nat.le_refl _⟩ | (show decide (n ≤ n ∧ _ * _ ≤ 140737488351232) = true; refine Eq.trans (b := decide (n ≤ n ∧ (n + 1) * 32 ≤ 140737488351232)) (by kernel_rfl) (by simp only [decide_eq_true_eq]; omega)))
        exact Tri.pathP mixed lib0_ok (n := 10000) (k := 10000) (j := 0) (cfg := ndCfg) (o := List.replicate 9 (some true)) (g' := .out .nor) (fs' := []) (s' := ndS (a) (IntKind.i64.wrap (i + 1)) (joinI OS n fun x => IntKind.i64.wrap (1 + IntKind.i64.wrap ((IntKind.u64.wrap (a.S i.toNat)).tmod 1000))) (joinI OK n fun x => a.K i.toNat) (joinI OV n fun x => a.V i.toNat) (joinI OM n fun x => a.M i.toNat) (n + (1, List.map constC ((fun l => Value.int IntKind.i64 (IntKind.i64.wrap (1 + IntKind.i64.wrap ((IntKind.u64.wrap (a.S i.toNat)).tmod 1000))) :: l) ((fun l => (Col.int IntKind.u64 a.K).at i.toNat :: l) ((fun l => (Col.int IntKind.u64 a.V).at i.toNat :: l) ((fun l => (Col.bool a.M).at i.toNat :: l) []))))).fst) (updI Z (IntKind.i64.wrap (1 + IntKind.i64.wrap ((IntKind.u64.wrap (a.S i.toNat)).tmod 1000))).toNat true)) (asks := [((decide (n ≤ n ∧ (n + (1, List.map constC ((fun l => Value.int IntKind.i64 (IntKind.i64.wrap (1 + IntKind.i64.wrap ((IntKind.u64.wrap (a.S i.toNat)).tmod 1000))) :: l) ((fun l => (Col.int IntKind.u64 a.K).at i.toNat :: l) ((fun l => (Col.int IntKind.u64 a.V).at i.toNat :: l) ((fun l => (Col.bool a.M).at i.toNat :: l) []))))).fst) * Tryz.prog.types[105].bytes ≤ 140737488351232)), true), ((decide (0 ≤ IntKind.i64.wrap (1 + IntKind.i64.wrap ((IntKind.u64.wrap (a.S i.toNat)).tmod 1000)) ∧ IntKind.i64.wrap (1 + IntKind.i64.wrap ((IntKind.u64.wrap (a.S i.toNat)).tmod 1000)) < (↑1001 : Int) ∧ 1001 ≤ 1001)), true), (!(Z (IntKind.i64.wrap (1 + IntKind.i64.wrap ((IntKind.u64.wrap (a.S i.toNat)).tmod 1000))).toNat), true), ((decide (0 ≤ IntKind.i64.wrap (1 + IntKind.i64.wrap ((IntKind.u64.wrap (a.S i.toNat)).tmod 1000)) ∧ IntKind.i64.wrap (1 + IntKind.i64.wrap ((IntKind.u64.wrap (a.S i.toNat)).tmod 1000)) < (↑1001 : Int) ∧ 1001 ≤ 1001)), true), ((decide (0 ≤ i ∧ i < (↑a.len : Int) ∧ a.len ≤ a.len)), true), ((decide (i < 40)), true), ((decide (i < (↑a.len : Int))), true), ((decide (i < (↑a.len : Int))), true), ((decide (i < (↑a.len : Int))), true)]) rfl (by kernel_rfl) ⟨h5, h3, (by rw [h4]; rfl), h3, h2, h1, h0, h0, h0, trivial⟩ (nd_next (a) (IntKind.i64.wrap (i + 1)) (joinI OS n fun x => IntKind.i64.wrap (1 + IntKind.i64.wrap ((IntKind.u64.wrap (a.S i.toNat)).tmod 1000))) (joinI OK n fun x => a.K i.toNat) (joinI OV n fun x => a.V i.toNat) (joinI OM n fun x => a.M i.toNat) (n + (1, List.map constC ((fun l => Value.int IntKind.i64 (IntKind.i64.wrap (1 + IntKind.i64.wrap ((IntKind.u64.wrap (a.S i.toNat)).tmod 1000))) :: l) ((fun l => (Col.int IntKind.u64 a.K).at i.toNat :: l) ((fun l => (Col.int IntKind.u64 a.V).at i.toNat :: l) ((fun l => (Col.bool a.M).at i.toNat :: l) []))))).fst) (updI Z (IntKind.i64.wrap (1 + IntKind.i64.wrap ((IntKind.u64.wrap (a.S i.toNat)).tmod 1000))).toNat true) (by first | exact nd_push hP h0 h1 h4 | exact nd_skip hP h0 h1 h4) (nd_less hP h1 hr))
    · exact Tri.pathP mixed lib0_ok (n := 10000) (k := 10000) (j := 0) (cfg := ndCfg) (o := List.replicate 3 (some true) ++ [some false]) (g' := .out (.out 0)) (fs' := []) (s' := ndS (a) (i) (OS) (OK) (OV) (OM) (n) (Z)) (asks := [((decide (i < 40)), false), ((decide (i < (↑a.len : Int))), true), ((decide (i < (↑a.len : Int))), true), ((decide (i < (↑a.len : Int))), true)]) rfl (by kernel_rfl) ⟨h1, h0, h0, h0, trivial⟩ (Tri.fin (nd_exit (a) (i) (OS) (OK) (OV) (OM) (n) (Z) (by first | exact nd_over hP (.inl h0) | exact nd_over hP (.inr h1))))
  · exact Tri.pathP mixed lib0_ok (n := 10000) (k := 10000) (j := 0) (cfg := ndCfg) (o := List.replicate 3 (some false)) (g' := .out (.out 0)) (fs' := []) (s' := ndS (a) (i) (OS) (OK) (OV) (OM) (n) (Z)) (asks := [((decide (i < (↑a.len : Int))), false), ((decide (i < (↑a.len : Int))), false), ((decide (i < (↑a.len : Int))), false)]) rfl (by kernel_rfl) ⟨h0, h0, h0, trivial⟩ (Tri.fin (nd_exit (a) (i) (OS) (OK) (OV) (OM) (n) (Z) (by first | exact nd_over hP (.inl h0) | exact nd_over hP (.inr h1))))
theorem nd_loop (a : NA) (i : Int) (OS OK OV : Nat → Int) (OM : Nat → Bool) (n : Nat) (Z : Nat → Bool) (hP : ndP a i OS OK OV OM n Z) : Tri repAt Tryz.prog ndZ 1 (.go (.loop ndL.1)) ndL.2 (ndS a i OS OK OV OM n Z) (ndQ a) := by
  refine Tri.loop (I := ndI a) (fun k s h => ?_) ⟨_, _, _, _, _, _, _, rfl, hP, rfl⟩
  obtain ⟨i, OS, OK, OV, OM, n, Z, rfl, hP, hk⟩ := h
  exact nd_round a i OS OK OV OM n Z hP hk
theorem nd_start (a : NA) : Tri repAt Tryz.prog ndZ 1 (.go (bodyOf Tryz.prog ndF)) [] ⟨argsE [.tsl 0 a.len], [ndArg a], 1⟩ (ndQ a) :=
  Tri.pathP mixed lib0_ok (n := 10000) (k := 10000) (j := 0) (cfg := ndCfg0) (o := []) (g' := .go (.loop ndL.1)) (fs' := ndL.2) (s' := ndS a 0 (fun i => ([] : List Int).getD i 0) (fun i => ([] : List Int).getD i 0) (fun i => ([] : List Int).getD i 0) (fun i => ([] : List Bool).getD i false) 0 (fun i => (List.replicate 1001 false).getD i false)) (asks := []) rfl (by kernel_rfl) trivial
    (nd_loop a 0 _ _ _ _ 0 _ ⟨by decide, by omega, by decide, rfl, by decide, (fun j hj => absurd hj (Nat.not_lt_zero _)), fun j => by
      simp only [Int.toNat_zero, NA.row, List.any_nil, List.getD, List.getElem?_replicate]
      split <;> rfl⟩)
/-- What nodes comes to. -/
def ndSpec : List SV → List (Nat × Chunk Rep) → Br Rep
  | [.tsl 0 len], [(0, .rep (.tab [.int .i64 S, .int .u64 K, .int .u64 V, .bool M] len'))] => .need (Nat.beq len len') (.leaf [.tsl 1 (NA.out ⟨S, K, V, M, len⟩).length] (ndHp (NA.out ⟨S, K, V, M, len⟩) ⟨S, K, V, M, len⟩))
  | _, _ => .fail 700
theorem nd_sub : SubOK repAt Tryz.prog ndF ndSpec := by
  intro args hp
  unfold ndSpec
  split
  · next len S K V M len' =>
    intro h
    obtain rfl := Nat.eq_of_beq_eq_true h
    exact ⟨_, _, Tryz.func8, rfl, Nat.le_of_ble_eq_true (by kernel_rfl), nd_start ⟨S, K, V, M, len⟩⟩
  · trivial
end Go.Proofs.YtpaiejeipghehaaGreat
end
