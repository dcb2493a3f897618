/- The executor with maps from places to words. No condition. -/
import Derived.Test.YtjediiajmnlonaaV4
import Derived.Test.YtjediiajmnlonaaChecked
namespace Go.Proofs.Ytjediiajmnlonaa
theorem own_ : ownKnob Try.prog.godebug = none := by kernel_rfl
theorem laid_ : laidOutB Try.prog = true := by kernel_rfl
theorem mixed : Try.prog.follows .mixedOrders = true := by kernel_rfl
noncomputable def extX (ev : Operand → Option SV) (o : Oper) : Option (M Rep SV) := match extM ev o with
  | some m => some m
  | none => extV Try.prog ev o
theorem ext_ok : ∀ ev o m, extX ev o = some m → ∀ st s st', m st = .ok s st' → OpS repAt Try.prog o ev st st' s := by
  intro ev o m hm
  unfold extX at hm
  split at hm
  · next m' h =>
    injection hm with hm
    subst hm
    exact extM_ok ev o m' h
  · exact extV_ok ev o m hm
noncomputable def lib0 : Lib Rep := ⟨fun _ _ => none, extX, some tidyG⟩
theorem lib0_ok : LibOK repAt Try.prog lib0 := ⟨(fun _ _ _ h => by cases h), ext_ok, fun f h st s k => by injection h with h; subst h; exact tidyG_eq st s k⟩
/-- For calls of which all is known. -/
noncomputable def libT : Lib Rep := ⟨fun _ _ => none, extX, some (tidyF fRep)⟩
theorem libT_ok : LibOK repAt Try.prog libT := ⟨(fun _ _ _ h => by cases h), ext_ok, fun f h st s k => by injection h with h; subst h; exact tidyF_eq fRep_eq st s k⟩
noncomputable abbrev runT : FuncId → List SV → M Rep SV := callX Try.prog libT 10000
theorem runT_ok : CallOK repAt Try.prog runT := callX_s mixed libT_ok 10000
noncomputable abbrev run0 : FuncId → List SV → M Rep SV := callX Try.prog lib0 10000
theorem run0_ok : CallOK repAt Try.prog run0 := callX_s mixed lib0_ok 10000
end Go.Proofs.Ytjediiajmnlonaa
