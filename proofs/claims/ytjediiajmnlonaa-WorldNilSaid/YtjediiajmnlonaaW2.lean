/- WorldNil, called with whatever, returns true, and its arguments read behind it as they did. No condition. -/
import Derived.Test.YtjediiajmnlonaaP2
import Derived.Test.YtjediiajmnlonaaA1
import Derived.Test.YtjediiajmnlonaaRows
namespace Go.Proofs.Ytjediiajmnlonaa
open Go.ChangeShapes Go.WideShapes Go.ChangeAt Go.RowKit Go.Deep
set_option linter.unusedVariables false

theorem own_ : ownKnob Try.prog.godebug = none := by kernel_rfl
theorem laid_ : laidOutB Try.prog = true := by kernel_rfl

set_option maxRecDepth 100000 in
theorem worldNil_run (a1 a2 a3 a4 b1 b2 : Int) (b3 : Bool) : okTrue (run0 5 [.agg [.v (.int .i64 a1), .v (.int .i64 a2), .v (.int .i64 a3), .v (.int .i64 a4)], .agg [.v (.int .u64 b1), .v (.int .i64 b2), .v (.bool b3)]] (St.none [])) = true := by kernel_rfl

theorem worldNil_walk {c0 c1 : List Value} (h0 : Two LeafOK [.int .i64, .int .i64, .int .i64, .int .i64] c0) (h1 : Two LeafOK [.int .u64, .int .i64, .bool] c1) (w : World) :
    Calls Try.prog 5 #[.agg c0.toArray, .agg c1.toArray] w fun e w' => e = .returned (.bool true) ∧ Mod [] w w' := by
  match c0, h0 with
  | [_, _, _, _], .cons ⟨a1, rfl, _⟩ (.cons ⟨a2, rfl, _⟩ (.cons ⟨a3, rfl, _⟩ (.cons ⟨a4, rfl, _⟩ .nil))) =>
    match c1, h1 with
    | [_, _, _], .cons ⟨b1, rfl, _⟩ (.cons ⟨b2, rfl, _⟩ (.cons ⟨b3, rfl⟩ .nil)) => exact closed_true' run0_ok (worldNil_run a1 a2 a3 a4 b1 b2 b3) w rfl

set_option maxRecDepth 100000 in
theorem worldNil_lifted (os : Os) (started : os.Started) (H : Type) (enc : TypeId × Value → H) :
    ReturnsInHanded {} Try.checked os 5 .any (Rows.worldNilSpec.pre6 enc Try.prog Try.f5 Rows.worldNilRow.domain false) (Rows.worldNilSpec.post enc Try.prog Try.f5 false true false false) := by
  refine returnsInHanded_of_change (C := Try.checked) own_ started (by kernel_rfl) Try.func5
    (ChangeSpec.witness6 (enc := enc) (C := Try.checked) false ⟨#[], #[.agg #[.int .i64 0, .int .i64 0, .int .i64 0, .int .i64 0], .agg #[.int .u64 0, .int .i64 0, .bool false]], []⟩ 8 (by kernel_rfl) (by kernel_rfl) (by kernel_rfl) (by kernel_rfl)) ?_
  intro W base args ds gs before hval0 hW hcnd _
  have hval : ∀ (j : Nat) t v, Try.f5.params[j]? = some t → args[j]? = some v → Value.okWide Try.prog W .any base t v := hval0
  have hW' := hW
  obtain ⟨p, q, hA0, hV, rfl, hfz, hnd⟩ := hW
  have hA : DataW.TrodAll enc Try.prog W 0 (fun _ => true) true Try.f5.params.toList args.toList ds p := hA0
  rw [Try.params5] at hA hval
  obtain ⟨v0, v1, d0, d1, p0, p1, rfl, rfl, rfl, h0, h1⟩ := trodAll_two hA
  obtain ⟨rfl, rfl⟩ := trodVars_none hV
  have k0 := h0
  have k1 := h1
  have lt0 : ∀ x ∈ p0, x.block < W.heap.size := by obtain ⟨m, hm⟩ := k0; exact DataW.trod_lt m _ _ _ hm
  have lt1 : ∀ x ∈ p1, x.block < W.heap.size := by obtain ⟨m, hm⟩ := k1; exact DataW.trod_lt m _ _ _ hm
  obtain ⟨f0, hf0⟩ := h0
  obtain ⟨f1, hf1⟩ := h1
  obtain ⟨c0, rfl, _⟩ := okWide_struct Try.underlying55 (hval 0 _ v0 rfl rfl)
  obtain ⟨c1, rfl, _⟩ := okWide_struct Try.underlying58 (hval 1 _ v1 rfl rfl)
  have l0 := leaves_trod (d := 9) (ls := [.int .i64, .int .i64, .int .i64, .int .i64]) (by kernel_rfl) hf0
  have l1 := leaves_trod (d := 9) (ls := [.int .u64, .int .i64, .bool]) (by kernel_rfl) hf1
  clear hA0 hval0
  refine (worldNil_walk l0 l1 W).mono fun e W' ⟨he, hm⟩ => ?_
  subst he
  have bel := hm.below
  exact ⟨_, rfl, _, _, _, [], _, [], hW', trodAll_mk1 (shut_bool Try.underlying4 _), (trodAll_cons_mk (Below.trod laid_ (by kernel_rfl) (of_decide_eq_true (by kernel_rfl)) k0 bel lt0) (trodAll_cons_mk (Below.trod laid_ (by kernel_rfl) (of_decide_eq_true (by kernel_rfl)) k1 bel lt1) trodAll_mk0)), rfl, bel.frame _, fun h => by cases h⟩

theorem worldNil_holds : Rows.WorldNilSaid :=
  OpenClaim.holds_of_wide 5 Try.f5 rfl rfl rfl rfl rfl rfl rfl ⟨rfl, rfl, rfl, rfl, rfl⟩ rfl rfl rfl rfl rfl (by kernel_rfl) Try.func5 (by kernel_rfl)
    (of_decide_eq_true (by kernel_rfl)) (by unfold Func.isWrapper; first | (rw [if_pos (by decide +kernel)]; kernel_rfl) | (rw [if_neg (by decide +kernel)]; exact ⟨rfl, rfl⟩))
    (fun os started H enc _ => worldNil_lifted os started H enc)
end Go.Proofs.Ytjediiajmnlonaa
