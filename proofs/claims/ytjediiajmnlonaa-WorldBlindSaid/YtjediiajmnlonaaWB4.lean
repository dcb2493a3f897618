/- WorldBlind, called with whatever, returns true, and its arguments read behind it as they did. No condition. -/
import Derived.Test.YtjediiajmnlonaaWB3
import Derived.Test.YtjediiajmnlonaaA2
import Derived.Test.YtjediiajmnlonaaRows
namespace Go.Proofs.Ytjediiajmnlonaa
open Go.ChangeShapes Go.WideShapes Go.ChangeAt Go.RowKit Go.Deep
set_option linter.unusedVariables false

set_option maxRecDepth 100000 in
theorem worldBlind_lifted (os : Os) (started : os.Started) (H : Type) (enc : TypeId × Value → H) :
    ReturnsInHanded {} Try.checked os 6 .any (Rows.worldBlindSpec.pre6 enc Try.prog Try.f6 Rows.worldBlindRow.domain false) (Rows.worldBlindSpec.post enc Try.prog Try.f6 false true false false) := by
  refine returnsInHanded_of_change (C := Try.checked) own_ started (by kernel_rfl) Try.func6
    (ChangeSpec.witness6 (enc := enc) (C := Try.checked) false ⟨#[], #[.slice none 0 0, .slice none 0 0], []⟩ 8 (by kernel_rfl) (by kernel_rfl) (by kernel_rfl) (by kernel_rfl)) ?_
  intro W base args ds gs before hval0 hW hcnd _
  have hval : ∀ (j : Nat) t v, Try.f6.params[j]? = some t → args[j]? = some v → Value.okWide Try.prog W .any base t v := hval0
  have hW' := hW
  obtain ⟨p, q, hA0, hV, rfl, hfz, hnd⟩ := hW
  have hA : DataW.TrodAll enc Try.prog W 0 (fun _ => true) true Try.f6.params.toList args.toList ds p := hA0
  rw [Try.params6] at hA hval
  obtain ⟨v0, v1, d0, d1, p0, p1, rfl, rfl, rfl, h0, h1⟩ := trodAll_two hA
  obtain ⟨rfl, rfl⟩ := trodVars_none hV
  have k0 := h0
  have k1 := h1
  have lt0 : ∀ x ∈ p0, x.block < W.heap.size := by obtain ⟨m, hm⟩ := k0; exact DataW.trod_lt m _ _ _ hm
  have lt1 : ∀ x ∈ p1, x.block < W.heap.size := by obtain ⟨m, hm⟩ := k1; exact DataW.trod_lt m _ _ _ hm
  obtain ⟨f0, hf0⟩ := h0
  obtain ⟨f1, hf1⟩ := h1
  obtain ⟨c0, n0, s0, e0, _, l0, _, t0⟩ := tab_slice (d := 9) (t := 72) (e := 76) (ls := [.int .i64, .int .i64, .int .i64, .int .i64, .int .i64, .int .u64, .int .i64, .bool, .int .u64, .int .i64, .bool]) Try.underlying72 (by kernel_rfl) (by kernel_rfl) (by decide) hf0
  obtain rfl := slice_of_cells Try.underlying72 (hval 0 _ v0 rfl rfl) e0
  obtain ⟨c1, n1, s1, e1, _, l1, _, t1⟩ := tab_slice (d := 9) (t := 73) (e := 3) (ls := [.int .i64]) Try.underlying73 (by kernel_rfl) (by kernel_rfl) (by decide) hf1
  obtain rfl := slice_of_cells Try.underlying73 (hval 1 _ v1 rfl rfl) e1
  clear hA0 hval0
  refine (worldBlind_walk l0 t0 l1 t1 W rfl).mono fun e W' ⟨he, hm⟩ => ?_
  subst he
  have bel := hm.below
  exact ⟨_, rfl, _, _, _, [], _, [], hW', trodAll_mk1 (shut_bool Try.underlying4 _), (trodAll_cons_mk (Below.trod laid_ (by kernel_rfl) (of_decide_eq_true (by kernel_rfl)) k0 bel lt0) (trodAll_cons_mk (Below.trod laid_ (by kernel_rfl) (of_decide_eq_true (by kernel_rfl)) k1 bel lt1) trodAll_mk0)), rfl, bel.frame _, fun h => by cases h⟩

theorem worldBlind_holds : Rows.WorldBlindSaid :=
  OpenClaim.holds_of_wide 6 Try.f6 rfl rfl rfl rfl rfl rfl rfl ⟨rfl, rfl, rfl, rfl, rfl⟩ rfl rfl rfl rfl rfl (by kernel_rfl) Try.func6 (by kernel_rfl)
    (of_decide_eq_true (by kernel_rfl)) (by unfold Func.isWrapper; first | (rw [if_pos (by decide +kernel)]; kernel_rfl) | (rw [if_neg (by decide +kernel)]; exact ⟨rfl, rfl⟩))
    (fun os started H enc _ => worldBlind_lifted os started H enc)
end Go.Proofs.Ytjediiajmnlonaa
