/- The awake of layer 23: true. No condition. -/
import Derived.Test.YtajncepjenmoiaaGreatP2
import Derived.Test.YtajncepjenmoiaaGreatEM
namespace Go.Proofs.YtajncepjenmoiaaGreat
set_option maxRecDepth 100000 in
theorem awake23 (w : World) : Calls Tryz.prog 29 #[] w fun e w' => e = .returned (.bool true) ∧ Mod [] w w' := closed_true runT_ok (by kernel_rfl) w
noncomputable abbrev run23 : FuncId → List SV → M Rep SV := callX Tryz.prog (lib0.with (Tab.one 29 kTrue)) 10000
theorem run23_ok : CallOK repAt Tryz.prog run23 := callX_s mixed (Lib.with_ok lib0_ok (TabOK.true awake23)) 10000
end Go.Proofs.YtajncepjenmoiaaGreat
