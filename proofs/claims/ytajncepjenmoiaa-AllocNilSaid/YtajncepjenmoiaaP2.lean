/- The executor with maps from places to words. No condition. -/
import Derived.Test.YtajncepjenmoiaaP1
import Derived.Test.YtajncepjenmoiaaChecked
namespace Go.Proofs.Ytajncepjenmoiaa
theorem own_ : ownKnob Try.prog.godebug = none := by kernel_rfl
theorem laid_ : laidOutB Try.prog = true := by kernel_rfl
theorem mixed : Try.prog.follows .mixedOrders = true := by kernel_rfl
def lib0 : Lib Rep := ⟨fun _ _ => none, extX, none⟩
theorem lib0_ok : LibOK repAt Try.prog lib0 := ⟨(fun _ _ _ h => by cases h), ext_ok, (fun _ h => by cases h)⟩
/-- For calls of which all is known. -/
def libT : Lib Rep := ⟨fun _ _ => none, extX, some fRep⟩
theorem libT_ok : LibOK repAt Try.prog libT := ⟨(fun _ _ _ h => by cases h), ext_ok, fun f h r k => by injection h with h; subst h; exact fRep_eq r k⟩
noncomputable abbrev runT : FuncId → List SV → M Rep SV := callX Try.prog libT 10000
theorem runT_ok : CallOK repAt Try.prog runT := callX_s mixed libT_ok 10000
noncomputable abbrev run0 : FuncId → List SV → M Rep SV := callX Try.prog lib0 10000
theorem run0_ok : CallOK repAt Try.prog run0 := callX_s mixed lib0_ok 10000
end Go.Proofs.Ytajncepjenmoiaa
