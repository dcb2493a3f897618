/- The awake of layer 14: true. No condition. -/
import Derived.Test.YtajncepjenmoiaaP2
import Derived.Test.YtajncepjenmoiaaEM
namespace Go.Proofs.Ytajncepjenmoiaa
set_option maxRecDepth 100000 in
theorem awake14 (w : World) : Calls Try.prog 45 #[] w fun e w' => e = .returned (.bool true) ∧ Mod [] w w' := closed_true run0_ok (by kernel_rfl) w
noncomputable abbrev run14 : FuncId → List SV → M Rep SV := callX Try.prog (lib0.with (Tab.one 45 kTrue)) 10000
theorem run14_ok : CallOK repAt Try.prog run14 := callX_s mixed (Lib.with_ok lib0_ok (TabOK.true awake14)) 10000
end Go.Proofs.Ytajncepjenmoiaa
