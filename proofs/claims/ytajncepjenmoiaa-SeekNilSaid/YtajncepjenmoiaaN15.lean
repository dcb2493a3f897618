/- SeekNil returns true, whatever its arguments. No condition. -/
import Derived.Test.YtajncepjenmoiaaN15a
import Derived.Test.YtajncepjenmoiaaA1
namespace Go.Proofs.Ytajncepjenmoiaa
set_option maxRecDepth 100000 in
theorem seekNil_run (x0a : Int) (x0b : Int) (x0c : Int) (x0d : Int) (x1a : Int) (x2a : Int) : okTrue (run15 3 [.agg [.v (.int .i64 x0a), .v (.int .i64 x0b), .v (.int .i64 x0c), .v (.int .i64 x0d)], .v (.int .i64 x1a), .v (.int .u64 x2a)] (St.none [])) = true := by kernel_rfl
theorem seekNil_walk {c0 : List Value} {c1 : Value} {c2 : Value} (h0 : Two LeafOK [.int .i64, .int .i64, .int .i64, .int .i64] c0) (h1 : Two LeafOK [.int .i64] [c1]) (h2 : Two LeafOK [.int .u64] [c2]) (w : World) : Calls Try.prog 3 #[.agg c0.toArray, c1, c2] w fun e w' => e = .returned (.bool true) ∧ Mod [] w w' := by
  match c0, h0 with
  | [_, _, _, _], .cons ⟨x0a, rfl, _⟩ (.cons ⟨x0b, rfl, _⟩ (.cons ⟨x0c, rfl, _⟩ (.cons ⟨x0d, rfl, _⟩ .nil))) =>
    match c1, h1 with
    | _, .cons ⟨x1a, rfl, _⟩ .nil =>
      match c2, h2 with
      | _, .cons ⟨x2a, rfl, _⟩ .nil =>
        exact closed_true' run15_ok (seekNil_run x0a x0b x0c x0d x1a x2a) w rfl
end Go.Proofs.Ytajncepjenmoiaa
