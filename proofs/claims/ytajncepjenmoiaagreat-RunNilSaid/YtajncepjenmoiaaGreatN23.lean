/- RunNil returns true, whatever its arguments. No condition. -/
import Derived.Test.YtajncepjenmoiaaGreatN23a
import Derived.Test.YtajncepjenmoiaaGreatA1
namespace Go.Proofs.YtajncepjenmoiaaGreat
set_option maxRecDepth 100000 in
theorem runNil_run (x0a : Int) : okTrue (run23 6 [.v (.int .i64 x0a)] (St.none [])) = true := by kernel_rfl
theorem runNil_walk {c0 : Value} (h0 : Two LeafOK [.int .i64] [c0]) (w : World) : Calls Tryz.prog 6 #[c0] w fun e w' => e = .returned (.bool true) ∧ Mod [] w w' := by
  match c0, h0 with
  | _, .cons ⟨x0a, rfl, _⟩ .nil =>
    exact closed_true' run23_ok (runNil_run x0a) w rfl
end Go.Proofs.YtajncepjenmoiaaGreat
