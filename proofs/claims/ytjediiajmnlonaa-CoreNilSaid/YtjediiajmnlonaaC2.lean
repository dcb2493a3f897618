/- CoreNil returns true, whatever the numbers. No condition. -/
import Derived.Test.YtjediiajmnlonaaP2
import Derived.Test.YtjediiajmnlonaaC1
import Derived.Test.YtjediiajmnlonaaA1
namespace Go.Proofs.Ytjediiajmnlonaa
set_option maxRecDepth 100000 in
theorem coreNil_run (a1 a2 b1 b2 : Int) (b3 : Bool) : answer (run0 10 [.agg [.v (.int .i64 a1), .v (.int .i64 a2)], .agg [.v (.int .u64 b1), .v (.int .i64 b2), .v (.bool b3)]] (St.none [])) =
    some (.v (.bool (IntKind.i64.wrap (fieldP b1 40 (64 - 23)) == IntKind.i64.wrap ((IntKind.u64.wrap (b1.tdiv 1099511627776)).tmod 8388608) && (b2 == b2 && true))), []) := by kernel_rfl
theorem coreNil_walk {c0 c1 : List Value} (h0 : Two LeafOK [.int .i64, .int .i64] c0) (h1 : Two LeafOK [.int .u64, .int .i64, .bool] c1) (w : World) :
    Calls Try.prog 10 #[.agg c0.toArray, .agg c1.toArray] w fun e w' => e = .returned (.bool true) ∧ Mod [] w w' := by
  match c0, h0 with
  | [_, _], .cons ⟨a1, rfl, _⟩ (.cons ⟨a2, rfl, _⟩ .nil) =>
    match c1, h1 with
    | [_, _, _], .cons ⟨b1, rfl, hb⟩ (.cons ⟨b2, rfl, _⟩ (.cons ⟨b3, rfl⟩ .nil)) =>
      refine (closed_ans run0_ok (coreNil_run a1 a2 b1 b2 b3) (fun p hp => by cases hp) w rfl).mono fun e w' ⟨he, hm⟩ => ⟨?_, hm⟩
      rw [he]
      congr 2
      have hb1 : 0 ≤ b1 ∧ b1 < 18446744073709551616 := by
        simp [Lit.wf, IntKind.min, IntKind.max, IntKind.signed, IntKind.bits] at hb
        omega
      have e1 := fieldP_eq hb1.1 40 23 (by omega) (by omega)
      have e2 : IntKind.u64.wrap (b1.tdiv 1099511627776) = b1 / 1099511627776 := by
        rw [Int.tdiv_eq_ediv_of_nonneg hb1.1, wrapU (by omega) (by omega)]
      have e3 : (b1 / 1099511627776).tmod 8388608 = b1 / 1099511627776 % 8388608 := Int.tmod_eq_emod_of_nonneg (by omega)
      have e4 : fieldP b1 40 (64 - 23) = b1 / 1099511627776 % 8388608 := e1
      rw [e2, e3, e4]
      simp
end Go.Proofs.Ytjediiajmnlonaa
