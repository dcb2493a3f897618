/- The awake of layer 7 returns true; and the executor with it, and with maps, as known calls. No condition. -/
import Derived.Test.YtjediiajmnlonaaK4
namespace Go.Proofs.Ytjediiajmnlonaa
theorem awake07 (w : World) : Calls Try.prog 30 #[] w fun e w' => e = .returned (.bool true) ∧ Mod [] w w' := closed_true runT_ok (f := 30) (by kernel_rfl) w
noncomputable def lib07 : Lib Rep := (lib0.with (Tab.one 30 kTrue)).maps
theorem lib07_ok : LibOK repAt Try.prog lib07 := Lib.maps_ok (Lib.with_ok lib0_ok (TabOK.true awake07))
end Go.Proofs.Ytjediiajmnlonaa
