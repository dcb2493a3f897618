/- QueueOrder, called with whatever entries and choices, returns true, and its arguments read behind it as they did. No condition. -/
import Derived.Test.YtjediiajmnlonaaO3
import Derived.Test.YtjediiajmnlonaaEnts
import Derived.Test.YtjediiajmnlonaaRows
import Derived.WalkKit
import Derived.ProofKit
import Derived.OpenShut
import Derived.ChangeOld
import Derived.Below
namespace Go.Proofs.Ytjediiajmnlonaa
open Go.ChangeShapes Go.WideShapes Go.ChangeAt Go.RowKit Go.Deep
set_option linter.unusedVariables false

section
variable {H : Type} {enc : TypeId × Value → H} {w : World} {base : Nat} {spare : Nat → Bool} {held : Bool}

theorem bool_of_trod (n : Nat) (cs : List Value) (d : DataW H × List MemPlace) (h : DataW.trod enc Try.prog w base spare held n 4 cs = some d) : ∃ b : Bool, cs = [.bool b] ∧ True := by
  obtain ⟨b, hb, _⟩ := DataW.trod_bool Try.underlying4 h
  exact ⟨b, hb, trivial⟩

theorem bools_of_trod {fuel : Nat} {cs : List Value} {x : DataW H × List MemPlace} (h : DataW.trod enc Try.prog w base spare held fuel 50 cs = some x) :
    ∃ (A : Option Addr) (cap b o : Nat) (ps : List Bool), cs = [.slice A ps.length cap] ∧ ps.length ≤ maxLen ∧ Rd w b o A (ps.map Value.bool) ∧ ∀ a ∈ ps, True := by
  obtain ⟨A, cap, b, o, ps, h1, h2, h3, h4⟩ := rd_slice (cells := fun b : Bool => [.bool b]) (fun _ => rfl) (by decide) (fun _ => True) Try.underlying50 (by kernel_rfl) bool_of_trod h
  refine ⟨A, cap, b, o, ps, h1, h2, ?_, h4⟩
  have e : flat (fun b : Bool => [Value.bool b]) ps = ps.map Value.bool := by
    clear h1 h2 h3 h4
    induction ps with
    | nil => rfl
    | cons p ps ih => simpa [flat] using ih
  rwa [e] at h3
end

set_option maxRecDepth 100000 in
theorem queueOrder_lifted (os : Os) (started : os.Started) (H : Type) (enc : TypeId × Value → H) :
    ReturnsInHanded {} Try.checked os 4 .any (Rows.queueOrderSpec.pre6 enc Try.prog Try.f4 Rows.queueOrderRow.domain false) (Rows.queueOrderSpec.post enc Try.prog Try.f4 false true false false) := by
  refine returnsInHanded_of_change (C := Try.checked) own_ started (by kernel_rfl) Try.func4
    (ChangeSpec.witness6 (enc := enc) (C := Try.checked) false ⟨#[], #[.slice none 0 0, .slice none 0 0], []⟩ 8 (by kernel_rfl) (by kernel_rfl) (by kernel_rfl) (by kernel_rfl)) ?_
  intro W base args ds gs before hval0 hW hcnd _
  have hval : ∀ (j : Nat) t v, Try.f4.params[j]? = some t → args[j]? = some v → Value.okWide Try.prog W .any base t v := hval0
  have hW' := hW
  obtain ⟨p, q, hA0, hV, rfl, hfz, hnd⟩ := hW
  have hA : DataW.TrodAll enc Try.prog W 0 (fun _ => true) true Try.f4.params.toList args.toList ds p := hA0
  rw [Try.params4] at hA hval
  obtain ⟨v0, v1, d0, d1, p0, p1, rfl, rfl, rfl, h0, h1⟩ := trodAll_two hA
  obtain ⟨rfl, rfl⟩ := trodVars_none hV
  have k0 := h0
  have k1 := h1
  have lt0 : ∀ x ∈ p0, x.block < W.heap.size := by obtain ⟨m, hm⟩ := k0; exact DataW.trod_lt m _ _ _ hm
  have lt1 : ∀ x ∈ p1, x.block < W.heap.size := by obtain ⟨m, hm⟩ := k1; exact DataW.trod_lt m _ _ _ hm
  obtain ⟨f0, hf0⟩ := h0
  obtain ⟨f1, hf1⟩ := h1
  obtain ⟨A0, c0, b0, o0, ys, hc0, _, hr0, _⟩ := ents_of_trod hf0
  obtain ⟨A1, c1, b1, o1, ps, hc1, _, hr1, _⟩ := bools_of_trod hf1
  obtain rfl := slice_of_cells Try.underlying22 (hval 0 _ v0 rfl rfl) hc0
  obtain rfl := slice_of_cells Try.underlying50 (hval 1 _ v1 rfl rfl) hc1
  clear hA0 hval0
  refine (queueOrder_walk hr0 hr1).mono fun e W' ⟨he, hm⟩ => ?_
  subst he
  have bel := hm.below
  exact ⟨_, rfl, _, _, _, [], _, [], hW', trodAll_mk1 (shut_bool Try.underlying4 _), (trodAll_cons_mk (Below.trod laid_ (by kernel_rfl) (of_decide_eq_true (by kernel_rfl)) k0 bel lt0) (trodAll_cons_mk (Below.trod laid_ (by kernel_rfl) (of_decide_eq_true (by kernel_rfl)) k1 bel lt1) trodAll_mk0)), rfl, bel.frame _, fun h => by cases h⟩

theorem queueOrder_holds : Rows.QueueOrderSaid :=
  OpenClaim.holds_of_wide 4 Try.f4 rfl rfl rfl rfl rfl rfl rfl ⟨rfl, rfl, rfl, rfl, rfl⟩ rfl rfl rfl rfl rfl (by kernel_rfl) Try.func4 (by kernel_rfl)
    (of_decide_eq_true (by kernel_rfl)) (by unfold Func.isWrapper; first | (rw [if_pos (by decide +kernel)]; kernel_rfl) | (rw [if_neg (by decide +kernel)]; exact ⟨rfl, rfl⟩))
    (fun os started H enc _ => queueOrder_lifted os started H enc)
end Go.Proofs.Ytjediiajmnlonaa
