/- maps.Equal at map[api.Place]uint64 (the shelf's proof, turned to a struct key): both maps not nil. -/
import Derived.Test.YtjediiajmnlonaaK0
import Derived.Lib.SlMapEqual
import Derived.WalkKit
import Derived.Maps.Ext
import Derived.Maps.RangeWalk
import Derived.Maps.OwnSet
import Derived.Laws.IdiomRangeMap
import Derived.Deep.LoopGhost
namespace Go.Proofs.Ytjediiajmnlonaa
open Go.RowKit Go.Maps

/-- Whether two words are one. -/
def eqU (a b : DataW Unit) : Bool := match a, b with
  | .lit (.int _ i), .lit (.int _ j) => i == j
  | _, _ => false

set_option maxHeartbeats 4000000 in
set_option maxRecDepth 100000 in
theorem equal_maps (R : Value → Option (DataW Unit × List MemPlace)) (hR : ∀ {v : Value} {z : DataW Unit × List MemPlace}, R v = some z → ∃ a, v = .int .u64 a ∧ z = (.lit (.int .u64 a), [])) (b1 b2 n1 n2 : Nat) (D1 D2 : DataW Unit) (w : World)
    (h1 : w.ownsMap Try.prog 53 R b1 n1 D1) (h2 : w.ownsMap Try.prog 53 R b2 n2 D2)
    (zp : List MemPlace) (hzd : R (.int .u64 0) = some (.lit (.int .u64 0), zp))
    (hz2 : ∀ w, (zeroValue 56).run Try.prog w = .ok (.int .u64 0) w)
    (hneq : ∀ (W : World) (x y : Value) (xd yd : DataW Unit) (xp yp : List MemPlace), R x = some (xd, xp) → R y = some (yd, yp) → (binOp .neq 56 x y).run Try.prog W = .ok (.bool (!eqU xd yd)) W ∧ ∀ (a b : Operand), (eqGuard .neq 56 a b x y).run Try.prog W = .ok () W) :
    Calls Try.prog 94 #[.map (some b1), .map (some b2)] w fun e w' => e = .returned (.bool (Lib.equalFuncD eqU D1 D2)) ∧ w.grownBy w' none := by
  have l1 := fun ty => h1.len (t := 171) Try.underlying171 ty
  have l2 := fun ty => h2.len (t := 171) Try.underlying171 ty
  obtain ⟨es1, rfl, hap, hkeys⟩ := h1.entries place_keyed
  have hb2 := h2.lt
  have HQ : Aside _ := hneq
  clear hneq
  generalize hres : Lib.equalFuncD eqU (.map es1) D2 = res
  have RES : Aside (Lib.equalFuncD eqU (.map es1) D2 = res) := hres
  clear hres
  by_cases hsz : Maps.size (.map es1 : DataW Unit) = Maps.size D2
  · go_enter Try.func94, Try.ntmps94
    go_wp2_with (first
      | (at_range; refine wpList_range_own _ rfl _ 171 rfl 53 56 place_keyed Try.underlying171 R b1 n1 _ rfl h1 ?_; intro w0 hrg0 hg0 hs0)
      | go_in)
    go_frame
    go_loopw [18] (fun _ wr => ∃ (left : Lit → Bool) (cnt : Nat), wr.ranges Try.prog 53 R b1 w.heap.size n1 (.map es1) left cnt ∧ wr.ownsMap Try.prog 53 R b2 n2 D2 ∧ w.grownBy wr none ∧ Aside (GoodAt eqU es1 D2 left))
      (fun _ wr => wr.rangeLeft b1 w.heap.size)
    case atStart => exact ⟨_, _, hrg0, h2.kept hg0 (by simp), hg0, good_start hkeys D2⟩
    case round =>
      obtain ⟨left, cnt, hrg, h2r, hgw, G⟩ := hrel
      go_wp2_with (first
        | (at_next; refine wpList_next_ranges _ rfl _ rfl 53 place_keyed R (fun p : Pl => .agg #[.int .i64 p.1, .int .i64 p.2.1, .int .i64 p.2.2]) (fun i => .int .u64 i) (fun key _ h => by obtain ⟨p, rfl, _⟩ := keyOf_inv h; exact ⟨p, rfl⟩) (fun v _ h => by obtain ⟨a, rfl, _⟩ := hR h; exact ⟨a, rfl⟩) b1 w.heap.size n1 _ _ _ rfl hrg ?_ ?_)
        | go_in)
      · -- NOTHING IS LEFT
        intro _ hl0
        go_wp2
        go_ret
        exact ⟨by rw [← RES.out, all_good G.out hl0 hsz]; rfl, hgw⟩
      · -- AN ENTRY HAS COME
        intro x y z c kl yd yp w1 cnt1 hkey hlx hv hat hrg1 hlt hg1 hs1 hen
        have hgw1 : w.grownBy w1 none := hgw.andThen hg1 (fun j hj => by cases hj; exact Or.inl (Nat.le_refl _))
        have h2w1 := h2r.kept hg1 (fun e => by have := Option.some.inj e; omega)
        have HAT : Aside (∀ zd, (DataW.map es1).atKey kl zd = yd) := hat
        clear hat
        have h2a := h2w1.kept (World.grownBy_alloc w1 (.cells #[.int .i64 x, .int .i64 y, .int .i64 z] 53) none) (by simp)
        have hrga := hrg1.alloc (.cells #[.int .i64 x, .int .i64 y, .int .i64 z] 53)
        have hgwa := hgw1.andThen (World.grownBy_alloc w1 (.cells #[.int .i64 x, .int .i64 y, .int .i64 z] 53) none) (fun j hj => by cases hj)
        cases hh : Maps.has D2 kl
        · have hbad : Lib.goodD eqU D2 (kl, yd) = false := by unfold Lib.goodD; rw [hh]; rfl
          go_wp2_with (first
            | (at_lookup; refine wpList_lookup_own_ok _ rfl _ _ 171 rfl 53 56 place_keyed Try.underlying171 R (hz2 _) (.lit (.int .u64 0)) zp hzd b2 n2 D2 rfl h2a _ kl rfl hkey ?_; intro v2 ps2 hv2; rw [hh]; go_frame)
            | go_in)
          go_ret
          exact ⟨by rw [← RES.out, bad_false hap hkeys HAT.out hbad]; rfl, hgwa⟩
        · cases he : eqU yd (D2.atKey kl (.lit (.int .u64 0)))
          · have hbad : Lib.goodD eqU D2 (kl, yd) = false := by unfold Lib.goodD; rw [hh, atKey_indep hh .nil (.lit (.int .u64 0)), he]; rfl
            go_wp2_with (first
              | (at_lookup; refine wpList_lookup_own_ok _ rfl _ _ 171 rfl 53 56 place_keyed Try.underlying171 R (hz2 _) (.lit (.int .u64 0)) zp hzd b2 n2 D2 rfl h2a _ kl rfl hkey ?_; intro v2 ps2 hv2; rw [hh]; go_frame; have hc := fun W => (HQ.out W (.int .u64 c) v2 yd _ yp ps2 hv hv2).1; have hgd := fun W => (HQ.out W (.int .u64 c) v2 yd _ yp ps2 hv hv2).2; rw [he] at hc)
              | go_in)
            go_ret
            exact ⟨by rw [← RES.out, bad_false hap hkeys HAT.out hbad]; rfl, hgwa⟩
          · have hgood : Lib.goodD eqU D2 (kl, yd) = true := by unfold Lib.goodD; rw [hh, atKey_indep hh .nil (.lit (.int .u64 0)), he]; rfl
            go_wp2_with (first
              | (at_lookup; refine wpList_lookup_own_ok _ rfl _ _ 171 rfl 53 56 place_keyed Try.underlying171 R (hz2 _) (.lit (.int .u64 0)) zp hzd b2 n2 D2 rfl h2a _ kl rfl hkey ?_; intro v2 ps2 hv2; rw [hh]; go_frame; have hc := fun W => (HQ.out W (.int .u64 c) v2 yd _ yp ps2 hv hv2).1; have hgd := fun W => (HQ.out W (.int .u64 c) v2 yd _ yp ps2 hv hv2).2; rw [he] at hc)
              | go_in)
            go_roundw
            case rel => exact ⟨_, cnt1, hrga, h2a, hgwa, good_step hap hkeys HAT.out G.out hgood⟩
            case measure => rw [hrga.left_eq, hrg.left_eq]; exact hlt
  · have hne : ¬ ((Maps.size (.map es1 : DataW Unit) : Int) = (Maps.size D2 : Int)) := fun e => hsz (by exact_mod_cast e)
    go_enter Try.func94, Try.ntmps94
    go_wp2
    go_ret
    exact ⟨by rw [← RES.out, sizes_false hsz]; rfl, World.grownBy.refl _ _⟩
end Go.Proofs.Ytjediiajmnlonaa
