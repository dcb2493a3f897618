/- AllocNil returns true, whatever its arguments. No condition. -/
import Derived.Test.YtajncepjenmoiaaN14a
import Derived.Test.YtajncepjenmoiaaA1
import Derived.Test.YtajncepjenmoiaaC1
namespace Go.Proofs.Ytajncepjenmoiaa
theorem slot_lies (k : Int) : 1 ≤ IntKind.i64.wrap (1 + IntKind.i64.wrap ((IntKind.u64.wrap k).tmod 9)) ∧ IntKind.i64.wrap (1 + IntKind.i64.wrap ((IntKind.u64.wrap k).tmod 9)) ≤ 9 := by
  have hu := wrapU_pos k
  have h1 : 0 ≤ (IntKind.u64.wrap k).tmod 9 := Int.tmod_nonneg _ hu.1
  have h2 : (IntKind.u64.wrap k).tmod 9 < 9 := Int.tmod_lt_of_pos _ (by decide)
  rw [wrapI (x := (IntKind.u64.wrap k).tmod 9) (by omega) (by omega), wrapI (by omega) (by omega)]
  omega
set_option maxRecDepth 100000 in
theorem allocNil_good (a b c d k : Int) : Good (fun o => run14 6 [.agg [.v (.int .i64 a), .v (.int .u64 b), .v (.int .u64 c), .v (.int .i64 d)], .v (.int .i64 k)] (St.none o)) (fun x => x = .bool true) := by
  have hv := slot_lies k
  have h0 : decide (IntKind.i64.wrap (1 + IntKind.i64.wrap ((IntKind.u64.wrap k).tmod 9)) < 1) = false := decide_eq_false (by omega)
  have h1 : decide (IntKind.i64.wrap (1 + IntKind.i64.wrap ((IntKind.u64.wrap k).tmod 9)) > 9) = false := decide_eq_false (by omega)
  have h2 : (IntKind.i64.wrap (1 + IntKind.i64.wrap ((IntKind.u64.wrap k).tmod 9)) != 0) = true := bne_iff_ne.2 (by omega)
  exact ⟨List.replicate 88 (none) ++ List.replicate 10 (some false) ++ List.replicate 3 (none) ++ [some true] ++ List.replicate 3 (none), [(IntKind.i64.wrap (1 + IntKind.i64.wrap ((IntKind.u64.wrap k).tmod 9)) != 0, true), (decide (IntKind.i64.wrap (1 + IntKind.i64.wrap ((IntKind.u64.wrap k).tmod 9)) > 9), false), (decide (IntKind.i64.wrap (1 + IntKind.i64.wrap ((IntKind.u64.wrap k).tmod 9)) < 1), false), (decide (IntKind.i64.wrap (1 + IntKind.i64.wrap ((IntKind.u64.wrap k).tmod 9)) < 1), false), (decide (IntKind.i64.wrap (1 + IntKind.i64.wrap ((IntKind.u64.wrap k).tmod 9)) < 1), false), (decide (IntKind.i64.wrap (1 + IntKind.i64.wrap ((IntKind.u64.wrap k).tmod 9)) < 1), false), (decide (IntKind.i64.wrap (1 + IntKind.i64.wrap ((IntKind.u64.wrap k).tmod 9)) < 1), false), (decide (IntKind.i64.wrap (1 + IntKind.i64.wrap ((IntKind.u64.wrap k).tmod 9)) < 1), false), (decide (IntKind.i64.wrap (1 + IntKind.i64.wrap ((IntKind.u64.wrap k).tmod 9)) < 1), false), (decide (IntKind.i64.wrap (1 + IntKind.i64.wrap ((IntKind.u64.wrap k).tmod 9)) < 1), false), (decide (IntKind.i64.wrap (1 + IntKind.i64.wrap ((IntKind.u64.wrap k).tmod 9)) < 1), false)], .bool true, by kernel_rfl, ⟨h2, h1, h0, h0, h0, h0, h0, h0, h0, h0, h0, trivial⟩, rfl⟩
theorem allocNil_walk {c0 : List Value} {c1 : Value} (h0 : Two LeafOK [.int .i64, .int .u64, .int .u64, .int .i64] c0) (h1 : Two LeafOK [.int .i64] [c1]) (w : World) : Calls Try.prog 6 #[.agg c0.toArray, c1] w fun e w' => e = .returned (.bool true) ∧ Mod [] w w' := by
  match c0, h0 with
  | [_, _, _, _], .cons ⟨x0a, rfl, _⟩ (.cons ⟨x0b, rfl, _⟩ (.cons ⟨x0c, rfl, _⟩ (.cons ⟨x0d, rfl, _⟩ .nil))) =>
    match c1, h1 with
    | _, .cons ⟨x1a, rfl, _⟩ .nil =>
      exact (good_ans run14_ok (allocNil_good x0a x0b x0c x0d x1a) w rfl).mono fun e w' ⟨x, hx, he, hm⟩ => by subst hx; exact ⟨he, hm⟩
end Go.Proofs.Ytajncepjenmoiaa
