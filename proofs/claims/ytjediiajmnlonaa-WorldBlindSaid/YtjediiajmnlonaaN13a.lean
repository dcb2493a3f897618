/- The awake of layer 13 returns true; and the executor with it as a known call. No condition. -/
import Derived.Test.YtjediiajmnlonaaP2
namespace Go.Proofs.Ytjediiajmnlonaa
theorem awake13 (w : World) : Calls Try.prog 42 #[] w fun e w' => e = .returned (.bool true) ∧ Mod [] w w' := closed_true runT_ok (f := 42) (by kernel_rfl) w
noncomputable def lib13 : Lib Rep := lib0.with (Tab.one 42 kTrue)
theorem lib13_ok : LibOK repAt Try.prog lib13 := Lib.with_ok lib0_ok (TabOK.true awake13)
end Go.Proofs.Ytjediiajmnlonaa
