/- The awake of layer 18: true. No condition. -/
import Derived.Test.YtajncepjenmoiaaP2
import Derived.Test.YtajncepjenmoiaaEM
namespace Go.Proofs.Ytajncepjenmoiaa
set_option maxRecDepth 100000 in
theorem awake18 (w : World) : Calls Try.prog 35 #[] w fun e w' => e = .returned (.bool true) ∧ Mod [] w w' := closed_true run0_ok (by kernel_rfl) w
noncomputable abbrev run18 : FuncId → List SV → M Rep SV := callX Try.prog (lib0.with (Tab.one 35 kTrue)) 10000
theorem run18_ok : CallOK repAt Try.prog run18 := callX_s mixed (Lib.with_ok lib0_ok (TabOK.true awake18)) 10000
end Go.Proofs.Ytajncepjenmoiaa
