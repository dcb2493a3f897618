/- nodes of the laws of layer 15: the states at its loop's head, and what it keeps. No condition. -/
import Derived.Test.YtpaiejeipghehaaGreatG4
import Derived.Test.YtpaiejeipghehaaGreatG3
import Derived.Test.YtpaiejeipghehaaGreatG2
section
/- Links of words: contracts of the program's functions, and of the document's. No condition. -/
namespace Go.Proofs.YtpaiejeipghehaaGreat
set_option maxRecDepth 100000
set_option maxHeartbeats 4000000
set_option linter.unusedSimpArgs false
set_option linter.unusedVariables false
/-- A link's word. -/
def lkWord (m : Bool) (s v : Int) : Int := if (0 ≤ s ∧ s ≤ 8388607) ∧ 0 ≤ v ∧ v ≤ 1099511627775 then v + s * 1099511627776 + (if m then 9223372036854775808 else 0) else 0
def lkMarked (w s v : Int) : Int := if lkMark w = true then w else lkWord true s v
theorem to_good (s v : Int) : Good (fun o => run0 114 [.v (.int .i64 s), .v (.int .i64 v)] (St.none o)) (fun x => x = .int .u64 (lkWord false s v)) := by
  rcases Bool.eq_false_or_eq_true (decide (s ≥ 0)) with h0 | h0
  · rcases Bool.eq_false_or_eq_true (decide (s ≤ 8388607)) with h1 | h1
    · rcases Bool.eq_false_or_eq_true (decide (v ≥ 0)) with h2 | h2
      · rcases Bool.eq_false_or_eq_true (decide (v ≤ 1099511627775)) with h3 | h3
        · have h4 : (decide (IntKind.u64.wrap v > Int.fdiv 18446744073709551615 (2 ^ min (IntKind.u64.wrap (IntKind.i64.wrap (64 - 40))).toNat IntKind.u64.bits))) = false := by ((have f40 : Int.fdiv 18446744073709551615 (2 ^ min (IntKind.u64.wrap (IntKind.i64.wrap (64 - 40))).toNat IntKind.u64.bits) = 1099511627775 := by rfl); (have f23 : Int.fdiv 18446744073709551615 (2 ^ min (IntKind.u64.wrap (IntKind.i64.wrap (64 - 23))).toNat IntKind.u64.bits) = 8388607 := by rfl); simp only [decide_eq_true_eq, decide_eq_false_iff_not, f40, f23] at *; rw [wrapU (by omega) (by omega)]; omega)
          have h5 : (decide (IntKind.u64.wrap s > Int.fdiv 18446744073709551615 (2 ^ min (IntKind.u64.wrap (IntKind.i64.wrap (64 - 23))).toNat IntKind.u64.bits))) = false := by ((have f40 : Int.fdiv 18446744073709551615 (2 ^ min (IntKind.u64.wrap (IntKind.i64.wrap (64 - 40))).toNat IntKind.u64.bits) = 1099511627775 := by rfl); (have f23 : Int.fdiv 18446744073709551615 (2 ^ min (IntKind.u64.wrap (IntKind.i64.wrap (64 - 23))).toNat IntKind.u64.bits) = 8388607 := by rfl); simp only [decide_eq_true_eq, decide_eq_false_iff_not, f40, f23] at *; rw [wrapU (by omega) (by omega)]; omega)
          exact ⟨List.replicate 12 (some true) ++ [some false] ++ List.replicate 165 (none) ++ [some false] ++ List.replicate 56 (none) ++ [some false], [((decide (IntKind.u64.wrap s > Int.fdiv 18446744073709551615 (2 ^ min (IntKind.u64.wrap (IntKind.i64.wrap (64 - 23))).toNat IntKind.u64.bits))), false), ((decide (IntKind.u64.wrap v > Int.fdiv 18446744073709551615 (2 ^ min (IntKind.u64.wrap (IntKind.i64.wrap (64 - 40))).toNat IntKind.u64.bits))), false), (!(decide (v ≤ 1099511627775)), false), ((decide (v ≥ 0)), true), ((decide (v ≥ 0)), true), ((decide (v ≥ 0)), true), ((decide (v ≥ 0)), true), ((decide (s ≤ 8388607)), true), ((decide (s ≤ 8388607)), true), ((decide (s ≤ 8388607)), true), ((decide (s ≤ 8388607)), true), ((decide (s ≥ 0)), true), ((decide (s ≥ 0)), true), ((decide (s ≥ 0)), true), ((decide (s ≥ 0)), true)], Value.int IntKind.u64 (IntKind.u64.wrap (↑(BitVec.ofInt IntKind.u64.bits (IntKind.u64.wrap (↑(BitVec.ofInt IntKind.u64.bits (IntKind.u64.wrap (↑(BitVec.ofInt IntKind.u64.bits (IntKind.u64.wrap (↑(BitVec.ofInt IntKind.u64.bits (IntKind.u64.wrap (↑(BitVec.ofInt IntKind.u64.bits (IntKind.u64.wrap (↑(BitVec.ofInt IntKind.u64.bits 0 &&& ~~~BitVec.ofInt IntKind.u64.bits (IntKind.u64.wrap (Int.fdiv 18446744073709551615 (2 ^ min (IntKind.u64.wrap (IntKind.i64.wrap (64 - 40))).toNat IntKind.u64.bits) * 2 ^ min (IntKind.u64.wrap 0).toNat IntKind.u64.bits))).toNat : Int)) ||| BitVec.ofInt IntKind.u64.bits (IntKind.u64.wrap (IntKind.u64.wrap v * 2 ^ min (IntKind.u64.wrap 0).toNat IntKind.u64.bits))).toNat : Int)) &&& ~~~BitVec.ofInt IntKind.u64.bits (IntKind.u64.wrap (Int.fdiv 18446744073709551615 (2 ^ min (IntKind.u64.wrap (IntKind.i64.wrap (64 - 23))).toNat IntKind.u64.bits) * 2 ^ min (IntKind.u64.wrap 40).toNat IntKind.u64.bits))).toNat : Int)) ||| BitVec.ofInt IntKind.u64.bits (IntKind.u64.wrap (IntKind.u64.wrap s * 2 ^ min (IntKind.u64.wrap 40).toNat IntKind.u64.bits))).toNat : Int)) &&& ~~~BitVec.ofInt IntKind.u64.bits (IntKind.u64.wrap (Int.fdiv 18446744073709551615 (2 ^ min (IntKind.u64.wrap (IntKind.i64.wrap (64 - 1))).toNat IntKind.u64.bits) * 2 ^ min (IntKind.u64.wrap 63).toNat IntKind.u64.bits))).toNat : Int)) ||| BitVec.ofInt IntKind.u64.bits (IntKind.u64.wrap (0 * 2 ^ min (IntKind.u64.wrap 63).toNat IntKind.u64.bits))).toNat : Int)), by kernel_rfl, ⟨h5, h4, (by rw [h3]; rfl), h2, h2, h2, h2, h1, h1, h1, h1, h0, h0, h0, h0, trivial⟩, (by simp only [decide_eq_true_eq, decide_eq_false_iff_not] at *; first | (rw [lkWord, if_neg (by omega)]; rfl) | (rw [lkWord, if_pos ⟨⟨by omega, by omega⟩, by omega, by omega⟩]; show Value.int _ (lkRaw 0 (IntKind.u64.wrap s) (IntKind.u64.wrap v)) = _; rw [wrapU (x := s) (by omega) (by omega), wrapU (x := v) (by omega) (by omega), lkRaw_eq (.inl rfl) ⟨⟨by omega, by omega⟩, by omega, by omega⟩]; simp))⟩
        · exact ⟨List.replicate 13 (some true), [(!(decide (v ≤ 1099511627775)), true), ((decide (v ≥ 0)), true), ((decide (v ≥ 0)), true), ((decide (v ≥ 0)), true), ((decide (v ≥ 0)), true), ((decide (s ≤ 8388607)), true), ((decide (s ≤ 8388607)), true), ((decide (s ≤ 8388607)), true), ((decide (s ≤ 8388607)), true), ((decide (s ≥ 0)), true), ((decide (s ≥ 0)), true), ((decide (s ≥ 0)), true), ((decide (s ≥ 0)), true)], Value.int IntKind.u64 (Int.ofNat 0), by kernel_rfl, ⟨(by rw [h3]; rfl), h2, h2, h2, h2, h1, h1, h1, h1, h0, h0, h0, h0, trivial⟩, (by simp only [decide_eq_true_eq, decide_eq_false_iff_not] at *; first | (rw [lkWord, if_neg (by omega)]; rfl) | (rw [lkWord, if_pos ⟨⟨by omega, by omega⟩, by omega, by omega⟩]; show Value.int _ (lkRaw 0 (IntKind.u64.wrap s) (IntKind.u64.wrap v)) = _; rw [wrapU (x := s) (by omega) (by omega), wrapU (x := v) (by omega) (by omega), lkRaw_eq (.inl rfl) ⟨⟨by omega, by omega⟩, by omega, by omega⟩]; simp))⟩
      · exact ⟨List.replicate 8 (some true) ++ List.replicate 4 (some false), [((decide (v ≥ 0)), false), ((decide (v ≥ 0)), false), ((decide (v ≥ 0)), false), ((decide (v ≥ 0)), false), ((decide (s ≤ 8388607)), true), ((decide (s ≤ 8388607)), true), ((decide (s ≤ 8388607)), true), ((decide (s ≤ 8388607)), true), ((decide (s ≥ 0)), true), ((decide (s ≥ 0)), true), ((decide (s ≥ 0)), true), ((decide (s ≥ 0)), true)], Value.int IntKind.u64 (Int.ofNat 0), by kernel_rfl, ⟨h2, h2, h2, h2, h1, h1, h1, h1, h0, h0, h0, h0, trivial⟩, (by simp only [decide_eq_true_eq, decide_eq_false_iff_not] at *; first | (rw [lkWord, if_neg (by omega)]; rfl) | (rw [lkWord, if_pos ⟨⟨by omega, by omega⟩, by omega, by omega⟩]; show Value.int _ (lkRaw 0 (IntKind.u64.wrap s) (IntKind.u64.wrap v)) = _; rw [wrapU (x := s) (by omega) (by omega), wrapU (x := v) (by omega) (by omega), lkRaw_eq (.inl rfl) ⟨⟨by omega, by omega⟩, by omega, by omega⟩]; simp))⟩
    · exact ⟨List.replicate 4 (some true) ++ List.replicate 4 (some false), [((decide (s ≤ 8388607)), false), ((decide (s ≤ 8388607)), false), ((decide (s ≤ 8388607)), false), ((decide (s ≤ 8388607)), false), ((decide (s ≥ 0)), true), ((decide (s ≥ 0)), true), ((decide (s ≥ 0)), true), ((decide (s ≥ 0)), true)], Value.int IntKind.u64 (Int.ofNat 0), by kernel_rfl, ⟨h1, h1, h1, h1, h0, h0, h0, h0, trivial⟩, (by simp only [decide_eq_true_eq, decide_eq_false_iff_not] at *; first | (rw [lkWord, if_neg (by omega)]; rfl) | (rw [lkWord, if_pos ⟨⟨by omega, by omega⟩, by omega, by omega⟩]; show Value.int _ (lkRaw 0 (IntKind.u64.wrap s) (IntKind.u64.wrap v)) = _; rw [wrapU (x := s) (by omega) (by omega), wrapU (x := v) (by omega) (by omega), lkRaw_eq (.inl rfl) ⟨⟨by omega, by omega⟩, by omega, by omega⟩]; simp))⟩
  · exact ⟨List.replicate 4 (some false), [((decide (s ≥ 0)), false), ((decide (s ≥ 0)), false), ((decide (s ≥ 0)), false), ((decide (s ≥ 0)), false)], Value.int IntKind.u64 (Int.ofNat 0), by kernel_rfl, ⟨h0, h0, h0, h0, trivial⟩, (by simp only [decide_eq_true_eq, decide_eq_false_iff_not] at *; first | (rw [lkWord, if_neg (by omega)]; rfl) | (rw [lkWord, if_pos ⟨⟨by omega, by omega⟩, by omega, by omega⟩]; show Value.int _ (lkRaw 0 (IntKind.u64.wrap s) (IntKind.u64.wrap v)) = _; rw [wrapU (x := s) (by omega) (by omega), wrapU (x := v) (by omega) (by omega), lkRaw_eq (.inl rfl) ⟨⟨by omega, by omega⟩, by omega, by omega⟩]; simp))⟩
theorem rword_good (m : Bool) (s v : Int) : Good (fun o => run0 87 [.agg [.v (.bool m), .v (.int .i64 s), .v (.int .i64 v)]] (St.none o)) (fun x => x = .int .u64 (lkWord m s v)) := by
  rcases Bool.eq_false_or_eq_true (decide (s ≥ 0)) with h0 | h0
  · rcases Bool.eq_false_or_eq_true (decide (s < 8388608)) with h1 | h1
    · rcases Bool.eq_false_or_eq_true (decide (v ≥ 0)) with h2 | h2
      · rcases Bool.eq_false_or_eq_true (decide (v < 1099511627776)) with h3 | h3
        · rcases Bool.eq_false_or_eq_true (m) with h4 | h4
          · exact ⟨List.replicate 12 (some true) ++ [some false] ++ [some true], [((m), true), (!(decide (v < 1099511627776)), false), ((decide (v ≥ 0)), true), ((decide (v ≥ 0)), true), ((decide (v ≥ 0)), true), ((decide (v ≥ 0)), true), ((decide (s < 8388608)), true), ((decide (s < 8388608)), true), ((decide (s < 8388608)), true), ((decide (s < 8388608)), true), ((decide (s ≥ 0)), true), ((decide (s ≥ 0)), true), ((decide (s ≥ 0)), true), ((decide (s ≥ 0)), true)], Value.int IntKind.u64 (IntKind.u64.wrap (IntKind.u64.wrap (IntKind.u64.wrap (IntKind.u64.wrap s * 1099511627776) + IntKind.u64.wrap v) + 9223372036854775808)), by kernel_rfl, ⟨h4, (by rw [h3]; rfl), h2, h2, h2, h2, h1, h1, h1, h1, h0, h0, h0, h0, trivial⟩, (by simp only [decide_eq_true_eq, decide_eq_false_iff_not] at *; first | (rw [lkWord, if_neg (by omega)]; rfl) | (rw [lkWord, if_pos ⟨⟨by omega, by omega⟩, by omega, by omega⟩, wrapU (x := s) (by omega) (by omega), wrapU (x := v) (by omega) (by omega), wrapU (x := s * 1099511627776) (by omega) (by omega), wrapU (x := s * 1099511627776 + v) (by omega) (by omega), h4]; simp; first | done | omega | (rw [wrapU (by omega) (by omega)]; omega)))⟩
          · exact ⟨List.replicate 12 (some true) ++ [some false, some false], [((m), false), (!(decide (v < 1099511627776)), false), ((decide (v ≥ 0)), true), ((decide (v ≥ 0)), true), ((decide (v ≥ 0)), true), ((decide (v ≥ 0)), true), ((decide (s < 8388608)), true), ((decide (s < 8388608)), true), ((decide (s < 8388608)), true), ((decide (s < 8388608)), true), ((decide (s ≥ 0)), true), ((decide (s ≥ 0)), true), ((decide (s ≥ 0)), true), ((decide (s ≥ 0)), true)], Value.int IntKind.u64 (IntKind.u64.wrap (IntKind.u64.wrap (IntKind.u64.wrap s * 1099511627776) + IntKind.u64.wrap v)), by kernel_rfl, ⟨h4, (by rw [h3]; rfl), h2, h2, h2, h2, h1, h1, h1, h1, h0, h0, h0, h0, trivial⟩, (by simp only [decide_eq_true_eq, decide_eq_false_iff_not] at *; first | (rw [lkWord, if_neg (by omega)]; rfl) | (rw [lkWord, if_pos ⟨⟨by omega, by omega⟩, by omega, by omega⟩, wrapU (x := s) (by omega) (by omega), wrapU (x := v) (by omega) (by omega), wrapU (x := s * 1099511627776) (by omega) (by omega), wrapU (x := s * 1099511627776 + v) (by omega) (by omega), h4]; simp; first | done | omega | (rw [wrapU (by omega) (by omega)]; omega)))⟩
        · exact ⟨List.replicate 13 (some true), [(!(decide (v < 1099511627776)), true), ((decide (v ≥ 0)), true), ((decide (v ≥ 0)), true), ((decide (v ≥ 0)), true), ((decide (v ≥ 0)), true), ((decide (s < 8388608)), true), ((decide (s < 8388608)), true), ((decide (s < 8388608)), true), ((decide (s < 8388608)), true), ((decide (s ≥ 0)), true), ((decide (s ≥ 0)), true), ((decide (s ≥ 0)), true), ((decide (s ≥ 0)), true)], Value.int IntKind.u64 (Int.ofNat 0), by kernel_rfl, ⟨(by rw [h3]; rfl), h2, h2, h2, h2, h1, h1, h1, h1, h0, h0, h0, h0, trivial⟩, (by simp only [decide_eq_true_eq, decide_eq_false_iff_not] at *; first | (rw [lkWord, if_neg (by omega)]; rfl) | (rw [lkWord, if_pos ⟨⟨by omega, by omega⟩, by omega, by omega⟩, wrapU (x := s) (by omega) (by omega), wrapU (x := v) (by omega) (by omega), wrapU (x := s * 1099511627776) (by omega) (by omega), wrapU (x := s * 1099511627776 + v) (by omega) (by omega), h4]; simp; first | done | omega | (rw [wrapU (by omega) (by omega)]; omega)))⟩
      · exact ⟨List.replicate 8 (some true) ++ List.replicate 4 (some false), [((decide (v ≥ 0)), false), ((decide (v ≥ 0)), false), ((decide (v ≥ 0)), false), ((decide (v ≥ 0)), false), ((decide (s < 8388608)), true), ((decide (s < 8388608)), true), ((decide (s < 8388608)), true), ((decide (s < 8388608)), true), ((decide (s ≥ 0)), true), ((decide (s ≥ 0)), true), ((decide (s ≥ 0)), true), ((decide (s ≥ 0)), true)], Value.int IntKind.u64 (Int.ofNat 0), by kernel_rfl, ⟨h2, h2, h2, h2, h1, h1, h1, h1, h0, h0, h0, h0, trivial⟩, (by simp only [decide_eq_true_eq, decide_eq_false_iff_not] at *; first | (rw [lkWord, if_neg (by omega)]; rfl) | (rw [lkWord, if_pos ⟨⟨by omega, by omega⟩, by omega, by omega⟩, wrapU (x := s) (by omega) (by omega), wrapU (x := v) (by omega) (by omega), wrapU (x := s * 1099511627776) (by omega) (by omega), wrapU (x := s * 1099511627776 + v) (by omega) (by omega), h4]; simp; first | done | omega | (rw [wrapU (by omega) (by omega)]; omega)))⟩
    · exact ⟨List.replicate 4 (some true) ++ List.replicate 4 (some false), [((decide (s < 8388608)), false), ((decide (s < 8388608)), false), ((decide (s < 8388608)), false), ((decide (s < 8388608)), false), ((decide (s ≥ 0)), true), ((decide (s ≥ 0)), true), ((decide (s ≥ 0)), true), ((decide (s ≥ 0)), true)], Value.int IntKind.u64 (Int.ofNat 0), by kernel_rfl, ⟨h1, h1, h1, h1, h0, h0, h0, h0, trivial⟩, (by simp only [decide_eq_true_eq, decide_eq_false_iff_not] at *; first | (rw [lkWord, if_neg (by omega)]; rfl) | (rw [lkWord, if_pos ⟨⟨by omega, by omega⟩, by omega, by omega⟩, wrapU (x := s) (by omega) (by omega), wrapU (x := v) (by omega) (by omega), wrapU (x := s * 1099511627776) (by omega) (by omega), wrapU (x := s * 1099511627776 + v) (by omega) (by omega), h4]; simp; first | done | omega | (rw [wrapU (by omega) (by omega)]; omega)))⟩
  · exact ⟨List.replicate 4 (some false), [((decide (s ≥ 0)), false), ((decide (s ≥ 0)), false), ((decide (s ≥ 0)), false), ((decide (s ≥ 0)), false)], Value.int IntKind.u64 (Int.ofNat 0), by kernel_rfl, ⟨h0, h0, h0, h0, trivial⟩, (by simp only [decide_eq_true_eq, decide_eq_false_iff_not] at *; first | (rw [lkWord, if_neg (by omega)]; rfl) | (rw [lkWord, if_pos ⟨⟨by omega, by omega⟩, by omega, by omega⟩, wrapU (x := s) (by omega) (by omega), wrapU (x := v) (by omega) (by omega), wrapU (x := s * 1099511627776) (by omega) (by omega), wrapU (x := s * 1099511627776 + v) (by omega) (by omega), h4]; simp; first | done | omega | (rw [wrapU (by omega) (by omega)]; omega)))⟩

theorem to_tab : TabOK Tryz.prog (Tab.one 114 (kI2 fun s v => .int .u64 (lkWord false s v))) := TabOK.i2 fun s v w => good_calls (to_good s v) rfl w
theorem rword_tab : TabOK Tryz.prog (Tab.one 87 (kLink fun m s v => .int .u64 (lkWord m s v))) := TabOK.one fun args s hs ρ vals w hv => by
  unfold kLink at hs
  split at hs <;> cases hs
  simp only [denL, den, Option.map_some, Option.some.injEq] at hv
  subst hv
  exact (good_calls (rword_good _ _ _) rfl w).mono fun e w' ⟨he, hm⟩ => ⟨_, he, rfl, hm⟩
theorem isMarked_tab : TabOK Tryz.prog (Tab.one 99 (kU1 fun w => .bool (lkMark w))) := TabOK.u1 fun a w => good_calls (args := [.v (.int .u64 a)]) ⟨[], [], _, by kernel_rfl, trivial, rfl⟩ rfl w
theorem slot_tab : TabOK Tryz.prog (Tab.one 115 (kU1 fun w => .int .i64 (lkSlot w))) := TabOK.u1 fun a w => good_calls (args := [.v (.int .u64 a)]) ⟨[], [], .int .i64 (lkSlot a), by kernel_rfl, trivial, rfl⟩ rfl w
noncomputable def tabL0 : Tab := (Tab.one 114 (kI2 fun s v => .int .u64 (lkWord false s v))).or ((Tab.one 87 (kLink fun m s v => .int .u64 (lkWord m s v))).or ((Tab.one 99 (kU1 fun w => .bool (lkMark w))).or (Tab.one 115 (kU1 fun w => .int .i64 (lkSlot w)))))
theorem tabL0_ok : TabOK Tryz.prog tabL0 := to_tab.or (rword_tab.or (isMarked_tab.or slot_tab))
noncomputable def tabL1 : Tab := tabL0
theorem tabL1_ok : TabOK Tryz.prog tabL1 := tabL0_ok
noncomputable def tabL : Tab := tabL1
theorem tabL_ok : TabOK Tryz.prog tabL := tabL1_ok
/-- The executor with these, and a law's awake. -/
noncomputable def libL (f : FuncId) : Lib Rep := lib0.with ((Tab.one f kTrue).or tabL)
theorem libL_ok {f : FuncId} (h : ∀ w, Calls Tryz.prog f #[] w fun e w' => e = .returned (.bool true) ∧ Mod [] w w') : LibOK repAt Tryz.prog (libL f) := Lib.with_ok lib0_ok ((TabOK.true h).or tabL_ok)
end Go.Proofs.YtpaiejeipghehaaGreat
end
section
/- Links of words: what is laid in is read. No condition. -/
namespace Go.Proofs.YtpaiejeipghehaaGreat
theorem lkWord_pos {m : Bool} {s v : Int} (h : lkOK s v) : lkWord m s v = v + s * 1099511627776 + (if m then 9223372036854775808 else 0) := if_pos h
theorem lkWord_lt {m : Bool} {s v : Int} : 0 ≤ lkWord m s v ∧ lkWord m s v < 18446744073709551616 := by
  unfold lkWord
  split
  · cases m <;> simp <;> omega
  · omega
theorem lkSlot_word {m : Bool} {s v : Int} (h : lkOK s v) : lkSlot (lkWord m s v) = s := by
  rw [lkSlot_eq lkWord_lt.1, lkWord_pos h]
  obtain ⟨h1, h2⟩ := h
  cases m <;> simp <;> omega
theorem lkVer_word {m : Bool} {s v : Int} (h : lkOK s v) : lkVer (lkWord m s v) = v := by
  rw [lkVer_eq lkWord_lt.1, lkWord_pos h]
  obtain ⟨h1, h2⟩ := h
  cases m <;> simp <;> omega
theorem lkMark_word {m : Bool} {s v : Int} (h : lkOK s v) : lkMark (lkWord m s v) = m := by
  rw [lkMark_eq lkWord_lt.1 lkWord_lt.2, lkWord_pos h]
  obtain ⟨h1, h2⟩ := h
  cases m <;> simp <;> omega
theorem low40 (a : Int) : IntKind.u64.wrap (↑(BitVec.ofInt IntKind.u64.bits (IntKind.u64.wrap a) &&& BitVec.ofInt IntKind.u64.bits 1099511627775).toNat : Int) = IntKind.u64.wrap a % 1099511627776 := by
  have hw := wrapU_pos a
  obtain ⟨n, hn⟩ := Int.eq_ofNat_of_zero_le hw.1
  rw [hn]
  have e : (BitVec.ofInt IntKind.u64.bits (n : Int) &&& BitVec.ofInt IntKind.u64.bits 1099511627775).toNat = n % 1099511627776 := by
    show (BitVec.ofInt 64 _ &&& BitVec.ofInt 64 ((2 ^ 40 - 1 : Nat) : Int)).toNat = _
    rw [ofInt_nat, ofInt_nat, and_mask n 40 (by omega)]
  rw [e, wrapU (by omega) (by omega)]
  simp
theorem low23 (b : Int) : IntKind.i64.wrap ((IntKind.u64.wrap b).tmod 8388608) = IntKind.u64.wrap b % 8388608 := by
  have hw := wrapU_pos b
  rw [Int.tmod_eq_emod_of_nonneg hw.1, wrapI (by omega) (by omega)]
end Go.Proofs.YtpaiejeipghehaaGreat
end
section
/- The executor with links, and the document's Cells, known. No condition. -/
namespace Go.Proofs.YtpaiejeipghehaaGreat
noncomputable abbrev libK : Lib Rep := (lib0.with tabL).more primUP
theorem libK_ok : LibOK repAt Tryz.prog libK := Lib.more_ok (Lib.with_ok lib0_ok tabL_ok) primUP_ok
end Go.Proofs.YtpaiejeipghehaaGreat
end
section
/- Lay of the document's layer 15: the states at its loop's head, and the words that it lays. Condition: few slots. -/
namespace Go.Proofs.YtpaiejeipghehaaGreat
noncomputable def propB (φ : Prop) : Bool := @decide φ (Classical.propDecidable φ)
theorem propB_true {φ : Prop} (h : φ) : propB φ = true := @decide_eq_true _ (Classical.propDecidable φ) h
theorem of_propB {φ : Prop} (h : propB φ = true) : φ := @of_decide_eq_true _ (Classical.propDecidable φ) h
noncomputable abbrev lyF : FuncId := 7
noncomputable abbrev lyZ : Nat := slotsOf Tryz.prog lyF
noncomputable def lyL : Code × List Fr := loopOf Tryz.prog lyF 0
structure LYA where
  S : Nat → Int
  K : Nat → Int
  V : Nat → Int
  M : Nat → Bool
  len : Nat
  root : Int
  level : Int
  epoch : Int
  F0 : Pl → Int
  m0 : Nat
def LYA.p (a : LYA) : Nat → Pl
  | 0 => (4, 0, a.root)
  | k + 1 => (5, a.S k, IntKind.i64.wrap (7 + a.level))
def LYA.mrk (a : LYA) : Nat → Bool
  | 0 => false
  | k + 1 => a.M k
/-- The words ahead of a slot's link. -/
def LYA.F (a : LYA) : Nat → Pl → Int
  | 0 => getL [((1, 0, 0), IntKind.u64.wrap a.epoch)] a.F0
  | k + 1 => getL [((5, a.S k, 4), a.V k), ((5, a.S k, 3), a.K k), (a.p k, lkWord (a.mrk k) (a.S k) a.epoch)] (a.F k)
def LYA.fin (a : LYA) : Pl → Int := getL [(a.p a.len, lkWord (a.mrk a.len) 0 a.epoch)] (a.F a.len)
def LYA.ok (a : LYA) : Prop := a.len ≤ 1000 ∧ a.m0 ≤ 10000 ∧ plWfB (4, 0, a.root) = true ∧ ∀ k, k < a.len → (Lit.int .i64 (a.S k)).wf = true
def lyS (a : LYA) (i p0 p1 p2 : Int) (mk : Bool) (F : Pl → Int) (m : Nat) : Sym Rep :=
  ⟨[(4, .tsl 1 a.len), (0, .ptr 0 0), (11, .ptr 2 0), (2, iv a.level), (10, .ptr 3 0), (12, .v (.bool mk)), (13, iv i)],
   [(0, .rep (.ucells [] F m)), (1, .rep (.vec [.int .i64 a.S, .int .u64 a.K, .int .u64 a.V, .bool a.M] a.len 105)), (2, .row [iv p0, iv p1, iv p2] 51), (3, .row [iv 0, iv 0, iv 0, iv 0, iv 0, iv a.epoch, .v (.slice none 0 0), iv 0, iv 0, iv 0] 45)], 4⟩
def lyCfg : Stop → List Gen × List Nat := fun _ => ([.map 0], [4, 0, 11, 2, 10, 12, 13])
def lyCfg2 : Stop → List Gen × List Nat := fun _ => ([], [])
def lyP (a : LYA) (i p0 p1 p2 : Int) (mk : Bool) (F : Pl → Int) (m : Nat) : Prop :=
  0 ≤ i ∧ i ≤ (a.len : Int) + 1 ∧ a.ok ∧ (i ≤ (a.len : Int) → (p0, p1, p2) = a.p i.toNat ∧ mk = a.mrk i.toNat ∧ F = a.F i.toNat ∧ m = a.m0 + 1 + 3 * i.toNat) ∧ ((a.len : Int) < i → F = a.fin ∧ m = a.m0 + 2 + 3 * a.len)
def lyHp (F : Pl → Int) (m : Nat) (a : LYA) : List (Nat × Chunk Rep) := [(0, .rep (.ucells [] F m)), (1, .rep (.vec [.int .i64 a.S, .int .u64 a.K, .int .u64 a.V, .bool a.M] a.len 105))]
abbrev lyQ (a : LYA) : Ex → Sym Rep → Prop := Ends Tryz.prog Tryz.f7 fun l s => l = [] ∧ s.hp = lyHp a.fin (a.m0 + 2 + 3 * a.len) a
theorem lk_low (s v : Int) : lkWord false s v < 9223372036854775808 := by
  unfold lkWord
  split
  · simp
    omega
  · omega
theorem wrapI_wf (z : Int) : (Lit.int .i64 (IntKind.i64.wrap z)).wf = true := by
  simp [Lit.wf, IntKind.wrap, IntKind.min, IntKind.max, IntKind.signed, IntKind.bits]
  omega
theorem pl_wf {a b c : Int} (ha : (Lit.int .i64 a).wf = true) (hb : (Lit.int .i64 b).wf = true) (hc : (Lit.int .i64 c).wf = true) : plWfB (a, b, c) = true := by
  simp [plWfB, ha, hb, hc]
theorem LYA.p_wf {a : LYA} (ha : a.ok) {k : Nat} (hk : k ≤ a.len) : plWfB (a.p k) = true := by
  cases k with
  | zero => exact ha.2.2.1
  | succ k => exact pl_wf (by decide) (ha.2.2.2 k (by omega)) (wrapI_wf _)
theorem ly_put {p : Pl} {m : Nat} (hp : plWfB p = true) (hm : m ≤ 1000000) : (plWfB p && m.ble 1000000) = true := by
  rw [hp, Nat.ble_eq_true_of_le hm]
  rfl
theorem ly_push {a : LYA} {i p0 p1 p2 : Int} {mk : Bool} {F : Pl → Int} {m : Nat} (hP : lyP a i p0 p1 p2 mk F m) (h1 : decide (i < (a.len : Int)) = true) {b : Bool} (hb : mk = b) :
    lyP a (IntKind.i64.wrap (i + 1)) 5 (a.S i.toNat) (IntKind.i64.wrap (7 + a.level)) (a.M i.toNat) (getL [((5, a.S i.toNat, 4), a.V i.toNat), ((5, a.S i.toNat, 3), a.K i.toNat), ((p0, p1, p2), lkWord b (a.S i.toNat) a.epoch)] F) (m + 1 + 1 + 1) := by
  subst hb
  obtain ⟨i0, i1, hok, hx, hy⟩ := hP
  have e1 := of_decide_eq_true h1
  have hl := hok.1
  obtain ⟨hp, hmk, hF, hm⟩ := hx (by omega)
  have hi : (IntKind.i64.wrap (i + 1)).toNat = i.toNat + 1 := by rw [wrapI (by omega) (by omega)]; omega
  rw [lyP, hi, wrapI (x := i + 1) (by omega) (by omega)]
  refine ⟨by omega, by omega, hok, fun _ => ⟨rfl, rfl, ?_, by omega⟩, fun h => by omega⟩
  rw [hp, hF, hmk]
  rfl
theorem ly_last {a : LYA} {i p0 p1 p2 : Int} {mk : Bool} {F : Pl → Int} {m : Nat} (hP : lyP a i p0 p1 p2 mk F m) (h0 : decide (i ≤ (a.len : Int)) = true) (h1 : decide (i < (a.len : Int)) = false) {b : Bool} (hb : mk = b) :
    lyP a (IntKind.i64.wrap (i + 1)) p0 p1 p2 mk (getL [((p0, p1, p2), lkWord b 0 a.epoch)] F) (m + 1) := by
  subst hb
  obtain ⟨i0, i1, hok, hx, hy⟩ := hP
  have e0 := of_decide_eq_true h0
  have e1 := of_decide_eq_false h1
  have hl := hok.1
  obtain ⟨hp, hmk, hF, hm⟩ := hx e0
  have hi : i.toNat = a.len := by omega
  rw [hi] at hp hmk hF hm
  rw [lyP, wrapI (x := i + 1) (by omega) (by omega)]
  refine ⟨by omega, by omega, hok, (fun h => by omega), fun _ => ⟨?_, by omega⟩⟩
  rw [hp, hF, hmk]
  rfl
theorem ly_less {a : LYA} {i p0 p1 p2 : Int} {mk : Bool} {F : Pl → Int} {m : Nat} (hP : lyP a i p0 p1 p2 mk F m) (h0 : decide (i ≤ (a.len : Int)) = true) {r : Nat} (hr : r = a.len + 1 - i.toNat) : a.len + 1 - (IntKind.i64.wrap (i + 1)).toNat < r := by
  obtain ⟨i0, i1, hok, _⟩ := hP
  have e0 := of_decide_eq_true h0
  have hl := hok.1
  rw [wrapI (by omega) (by omega)]
  omega
end Go.Proofs.YtpaiejeipghehaaGreat
end
section
/- Lay of the document's layer 15: its runs from point to point. Condition: few slots. -/
namespace Go.Proofs.YtpaiejeipghehaaGreat
set_option linter.unusedVariables false
set_option linter.unusedSimpArgs false
set_option maxRecDepth 100000
set_option maxHeartbeats 8000000
def lyI (a : LYA) (r : Nat) (s : Sym Rep) : Prop := ∃ (i p0 p1 p2 : Int) (mk : Bool) (F : Pl → Int) (m : Nat), s = lyS a i p0 p1 p2 mk F m ∧ lyP a i p0 p1 p2 mk F m ∧ r = a.len + 1 - i.toNat
abbrev lyR (a : LYA) (r : Nat) (x : Ex) (s : Sym Rep) : Prop := match x with
  | .nor => ∃ k', k' < r ∧ lyI a k' s
  | x => Tri repAt Tryz.prog lyZ 2 (.out x) lyL.2 s (lyQ a)
theorem ly_next (a : LYA) (i p0 p1 p2 : Int) (mk : Bool) (F : Pl → Int) (m : Nat) {r : Nat} (hP : lyP a i p0 p1 p2 mk F m) (hk : a.len + 1 - i.toNat < r) : Tri repAt Tryz.prog lyZ 2 (.out .nor) [] (lyS a i p0 p1 p2 mk F m) (lyR a r) := Tri.fin ⟨_, hk, i, p0, p1, p2, mk, F, m, rfl, hP, rfl⟩

theorem ly_exit (a : LYA) (i p0 p1 p2 : Int) (mk : Bool) (F : Pl → Int) (m : Nat) (h : F = a.fin ∧ m = a.m0 + 2 + 3 * a.len)  : Tri repAt Tryz.prog lyZ 2 (.out (.out 0)) lyL.2 (lyS a i p0 p1 p2 mk F m) (lyQ a) := by
  exact Tri.pathP mixed libK_ok (n := 10000) (k := 10000) (j := 0) (cfg := lyCfg2) (o := []) (g' := .out .nor) (fs' := []) (s' := ⟨[], [(0, Chunk.rep (Rep.ucells [] F m)), (1, Chunk.rep (Rep.vec [Col.int IntKind.i64 a.S, Col.int IntKind.u64 a.K, Col.int IntKind.u64 a.V, Col.bool a.M] a.len 105))], 2⟩) (asks := []) rfl (by kernel_rfl) trivial (Tri.fin (Ends.none (by kernel_rfl) (.inr rfl) ⟨rfl, by obtain ⟨rfl, rfl⟩ := h; rfl⟩))
theorem ly_round (a : LYA) (i p0 p1 p2 : Int) (mk : Bool) (F : Pl → Int) (m : Nat) (hP : lyP a i p0 p1 p2 mk F m) {r : Nat} (hr : r = a.len + 1 - i.toNat) : Tri repAt Tryz.prog lyZ 2 (.go lyL.1) [] (lyS a i p0 p1 p2 mk F m) (lyR a r) := by
  rcases Bool.eq_false_or_eq_true (decide (i ≤ (↑a.len : Int))) with h0 | h0
  · rcases Bool.eq_false_or_eq_true (decide (i < (↑a.len : Int))) with h1 | h1
    · have h2 : (decide (0 ≤ i ∧ i < (↑a.len : Int) ∧ a.len ≤ a.len)) = true := by (obtain ⟨i0, i1, hok, hx, hy⟩ := hP; first | exact decide_eq_true ⟨i0, of_decide_eq_true h1, Nat.le_refl _⟩ | (have h := lk_low (a.S i.toNat) a.epoch; exact decide_eq_false (by omega)) | (have h := lk_low 0 a.epoch; exact decide_eq_false (by omega)) | exact ly_put (by obtain ⟨hp, _⟩ := hx (of_decide_eq_true h0); rw [hp]; exact LYA.p_wf hok (by have := of_decide_eq_true h0; omega)) (by obtain ⟨_, _, _, hm⟩ := hx (of_decide_eq_true h0); have := hok.1; have := hok.2.1; have := of_decide_eq_true h0; omega) | exact ly_put (pl_wf (by decide) (hok.2.2.2 _ (by have := of_decide_eq_true h1; omega)) (by decide)) (by obtain ⟨_, _, _, hm⟩ := hx (of_decide_eq_true h0); have := hok.1; have := hok.2.1; have := of_decide_eq_true h0; omega))
      rcases Bool.eq_false_or_eq_true (mk) with h3 | h3
      · have h4 : (decide (lkWord false (a.S i.toNat) a.epoch ≥ 9223372036854775808)) = false := by (obtain ⟨i0, i1, hok, hx, hy⟩ := hP; first | exact decide_eq_true ⟨i0, of_decide_eq_true h1, Nat.le_refl _⟩ | (have h := lk_low (a.S i.toNat) a.epoch; exact decide_eq_false (by omega)) | (have h := lk_low 0 a.epoch; exact decide_eq_false (by omega)) | exact ly_put (by obtain ⟨hp, _⟩ := hx (of_decide_eq_true h0); rw [hp]; exact LYA.p_wf hok (by have := of_decide_eq_true h0; omega)) (by obtain ⟨_, _, _, hm⟩ := hx (of_decide_eq_true h0); have := hok.1; have := hok.2.1; have := of_decide_eq_true h0; omega) | exact ly_put (pl_wf (by decide) (hok.2.2.2 _ (by have := of_decide_eq_true h1; omega)) (by decide)) (by obtain ⟨_, _, _, hm⟩ := hx (of_decide_eq_true h0); have := hok.1; have := hok.2.1; have := of_decide_eq_true h0; omega))
        have h5 : (plWfB (p0, p1, p2) && m.ble 1000000) = true := by (obtain ⟨i0, i1, hok, hx, hy⟩ := hP; first | exact decide_eq_true ⟨i0, of_decide_eq_true h1, Nat.le_refl _⟩ | (have h := lk_low (a.S i.toNat) a.epoch; exact decide_eq_false (by omega)) | (have h := lk_low 0 a.epoch; exact decide_eq_false (by omega)) | exact ly_put (by obtain ⟨hp, _⟩ := hx (of_decide_eq_true h0); rw [hp]; exact LYA.p_wf hok (by have := of_decide_eq_true h0; omega)) (by obtain ⟨_, _, _, hm⟩ := hx (of_decide_eq_true h0); have := hok.1; have := hok.2.1; have := of_decide_eq_true h0; omega) | exact ly_put (pl_wf (by decide) (hok.2.2.2 _ (by have := of_decide_eq_true h1; omega)) (by decide)) (by obtain ⟨_, _, _, hm⟩ := hx (of_decide_eq_true h0); have := hok.1; have := hok.2.1; have := of_decide_eq_true h0; omega))
        have h6 : (plWfB (5, a.S i.toNat, 3) && (m + 1).ble 1000000) = true := by (obtain ⟨i0, i1, hok, hx, hy⟩ := hP; first | exact decide_eq_true ⟨i0, of_decide_eq_true h1, Nat.le_refl _⟩ | (have h := lk_low (a.S i.toNat) a.epoch; exact decide_eq_false (by omega)) | (have h := lk_low 0 a.epoch; exact decide_eq_false (by omega)) | exact ly_put (by obtain ⟨hp, _⟩ := hx (of_decide_eq_true h0); rw [hp]; exact LYA.p_wf hok (by have := of_decide_eq_true h0; omega)) (by obtain ⟨_, _, _, hm⟩ := hx (of_decide_eq_true h0); have := hok.1; have := hok.2.1; have := of_decide_eq_true h0; omega) | exact ly_put (pl_wf (by decide) (hok.2.2.2 _ (by have := of_decide_eq_true h1; omega)) (by decide)) (by obtain ⟨_, _, _, hm⟩ := hx (of_decide_eq_true h0); have := hok.1; have := hok.2.1; have := of_decide_eq_true h0; omega))
        have h7 : (plWfB (5, a.S i.toNat, 4) && (m + 1 + 1).ble 1000000) = true := by (obtain ⟨i0, i1, hok, hx, hy⟩ := hP; first | exact decide_eq_true ⟨i0, of_decide_eq_true h1, Nat.le_refl _⟩ | (have h := lk_low (a.S i.toNat) a.epoch; exact decide_eq_false (by omega)) | (have h := lk_low 0 a.epoch; exact decide_eq_false (by omega)) | exact ly_put (by obtain ⟨hp, _⟩ := hx (of_decide_eq_true h0); rw [hp]; exact LYA.p_wf hok (by have := of_decide_eq_true h0; omega)) (by obtain ⟨_, _, _, hm⟩ := hx (of_decide_eq_true h0); have := hok.1; have := hok.2.1; have := of_decide_eq_true h0; omega) | exact ly_put (pl_wf (by decide) (hok.2.2.2 _ (by have := of_decide_eq_true h1; omega)) (by decide)) (by obtain ⟨_, _, _, hm⟩ := hx (of_decide_eq_true h0); have := hok.1; have := hok.2.1; have := of_decide_eq_true h0; omega))
        exact Tri.pathP mixed libK_ok (n := 10000) (k := 10000) (j := 0) (cfg := lyCfg) (o := List.replicate 4 (some true) ++ [some false] ++ List.replicate 7 (some true)) (g' := .out .nor) (fs' := []) (s' := lyS (a) (IntKind.i64.wrap (i + 1)) (Int.ofNat 5) (a.S i.toNat) (IntKind.i64.wrap (7 + a.level)) (a.M i.toNat) (getL [((5, a.S i.toNat, 4), a.V i.toNat), ((5, a.S i.toNat, 3), a.K i.toNat), ((p0, p1, p2), lkWord true (a.S i.toNat) a.epoch)] F) (m + 1 + 1 + 1)) (asks := [((plWfB (5, a.S i.toNat, 4) && (m + 1 + 1).ble 1000000), true), ((decide (0 ≤ i ∧ i < (↑a.len : Int) ∧ a.len ≤ a.len)), true), ((plWfB (5, a.S i.toNat, 3) && (m + 1).ble 1000000), true), ((decide (0 ≤ i ∧ i < (↑a.len : Int) ∧ a.len ≤ a.len)), true), ((decide (0 ≤ i ∧ i < (↑a.len : Int) ∧ a.len ≤ a.len)), true), ((decide (i < (↑a.len : Int))), true), ((plWfB (p0, p1, p2) && m.ble 1000000), true), ((decide (lkWord false (a.S i.toNat) a.epoch ≥ 9223372036854775808)), false), ((mk), true), ((decide (0 ≤ i ∧ i < (↑a.len : Int) ∧ a.len ≤ a.len)), true), ((decide (i < (↑a.len : Int))), true), ((decide (i ≤ (↑a.len : Int))), true)]) rfl (by kernel_rfl) ⟨h7, h2, h6, h2, h2, h1, h5, h4, h3, h2, h1, h0, trivial⟩ (ly_next (a) (IntKind.i64.wrap (i + 1)) (Int.ofNat 5) (a.S i.toNat) (IntKind.i64.wrap (7 + a.level)) (a.M i.toNat) (getL [((5, a.S i.toNat, 4), a.V i.toNat), ((5, a.S i.toNat, 3), a.K i.toNat), ((p0, p1, p2), lkWord true (a.S i.toNat) a.epoch)] F) (m + 1 + 1 + 1) (by first | exact ly_push hP h1 h3 | exact ly_last hP h0 h1 h3) (ly_less hP h0 hr))
      · have h5 : (plWfB (p0, p1, p2) && m.ble 1000000) = true := by (obtain ⟨i0, i1, hok, hx, hy⟩ := hP; first | exact decide_eq_true ⟨i0, of_decide_eq_true h1, Nat.le_refl _⟩ | (have h := lk_low (a.S i.toNat) a.epoch; exact decide_eq_false (by omega)) | (have h := lk_low 0 a.epoch; exact decide_eq_false (by omega)) | exact ly_put (by obtain ⟨hp, _⟩ := hx (of_decide_eq_true h0); rw [hp]; exact LYA.p_wf hok (by have := of_decide_eq_true h0; omega)) (by obtain ⟨_, _, _, hm⟩ := hx (of_decide_eq_true h0); have := hok.1; have := hok.2.1; have := of_decide_eq_true h0; omega) | exact ly_put (pl_wf (by decide) (hok.2.2.2 _ (by have := of_decide_eq_true h1; omega)) (by decide)) (by obtain ⟨_, _, _, hm⟩ := hx (of_decide_eq_true h0); have := hok.1; have := hok.2.1; have := of_decide_eq_true h0; omega))
        have h6 : (plWfB (5, a.S i.toNat, 3) && (m + 1).ble 1000000) = true := by (obtain ⟨i0, i1, hok, hx, hy⟩ := hP; first | exact decide_eq_true ⟨i0, of_decide_eq_true h1, Nat.le_refl _⟩ | (have h := lk_low (a.S i.toNat) a.epoch; exact decide_eq_false (by omega)) | (have h := lk_low 0 a.epoch; exact decide_eq_false (by omega)) | exact ly_put (by obtain ⟨hp, _⟩ := hx (of_decide_eq_true h0); rw [hp]; exact LYA.p_wf hok (by have := of_decide_eq_true h0; omega)) (by obtain ⟨_, _, _, hm⟩ := hx (of_decide_eq_true h0); have := hok.1; have := hok.2.1; have := of_decide_eq_true h0; omega) | exact ly_put (pl_wf (by decide) (hok.2.2.2 _ (by have := of_decide_eq_true h1; omega)) (by decide)) (by obtain ⟨_, _, _, hm⟩ := hx (of_decide_eq_true h0); have := hok.1; have := hok.2.1; have := of_decide_eq_true h0; omega))
        have h7 : (plWfB (5, a.S i.toNat, 4) && (m + 1 + 1).ble 1000000) = true := by (obtain ⟨i0, i1, hok, hx, hy⟩ := hP; first | exact decide_eq_true ⟨i0, of_decide_eq_true h1, Nat.le_refl _⟩ | (have h := lk_low (a.S i.toNat) a.epoch; exact decide_eq_false (by omega)) | (have h := lk_low 0 a.epoch; exact decide_eq_false (by omega)) | exact ly_put (by obtain ⟨hp, _⟩ := hx (of_decide_eq_true h0); rw [hp]; exact LYA.p_wf hok (by have := of_decide_eq_true h0; omega)) (by obtain ⟨_, _, _, hm⟩ := hx (of_decide_eq_true h0); have := hok.1; have := hok.2.1; have := of_decide_eq_true h0; omega) | exact ly_put (pl_wf (by decide) (hok.2.2.2 _ (by have := of_decide_eq_true h1; omega)) (by decide)) (by obtain ⟨_, _, _, hm⟩ := hx (of_decide_eq_true h0); have := hok.1; have := hok.2.1; have := of_decide_eq_true h0; omega))
        exact Tri.pathP mixed libK_ok (n := 10000) (k := 10000) (j := 0) (cfg := lyCfg) (o := List.replicate 3 (some true) ++ [some false] ++ List.replicate 7 (some true)) (g' := .out .nor) (fs' := []) (s' := lyS (a) (IntKind.i64.wrap (i + 1)) (Int.ofNat 5) (a.S i.toNat) (IntKind.i64.wrap (7 + a.level)) (a.M i.toNat) (getL [((5, a.S i.toNat, 4), a.V i.toNat), ((5, a.S i.toNat, 3), a.K i.toNat), ((p0, p1, p2), lkWord false (a.S i.toNat) a.epoch)] F) (m + 1 + 1 + 1)) (asks := [((plWfB (5, a.S i.toNat, 4) && (m + 1 + 1).ble 1000000), true), ((decide (0 ≤ i ∧ i < (↑a.len : Int) ∧ a.len ≤ a.len)), true), ((plWfB (5, a.S i.toNat, 3) && (m + 1).ble 1000000), true), ((decide (0 ≤ i ∧ i < (↑a.len : Int) ∧ a.len ≤ a.len)), true), ((decide (0 ≤ i ∧ i < (↑a.len : Int) ∧ a.len ≤ a.len)), true), ((decide (i < (↑a.len : Int))), true), ((plWfB (p0, p1, p2) && m.ble 1000000), true), ((mk), false), ((decide (0 ≤ i ∧ i < (↑a.len : Int) ∧ a.len ≤ a.len)), true), ((decide (i < (↑a.len : Int))), true), ((decide (i ≤ (↑a.len : Int))), true)]) rfl (by kernel_rfl) ⟨h7, h2, h6, h2, h2, h1, h5, h3, h2, h1, h0, trivial⟩ (ly_next (a) (IntKind.i64.wrap (i + 1)) (Int.ofNat 5) (a.S i.toNat) (IntKind.i64.wrap (7 + a.level)) (a.M i.toNat) (getL [((5, a.S i.toNat, 4), a.V i.toNat), ((5, a.S i.toNat, 3), a.K i.toNat), ((p0, p1, p2), lkWord false (a.S i.toNat) a.epoch)] F) (m + 1 + 1 + 1) (by first | exact ly_push hP h1 h3 | exact ly_last hP h0 h1 h3) (ly_less hP h0 hr))
    · rcases Bool.eq_false_or_eq_true (mk) with h3 | h3
      · have h8 : (decide (lkWord false 0 a.epoch ≥ 9223372036854775808)) = false := by (obtain ⟨i0, i1, hok, hx, hy⟩ := hP; first | exact decide_eq_true ⟨i0, of_decide_eq_true h1, Nat.le_refl _⟩ | (have h := lk_low (a.S i.toNat) a.epoch; exact decide_eq_false (by omega)) | (have h := lk_low 0 a.epoch; exact decide_eq_false (by omega)) | exact ly_put (by obtain ⟨hp, _⟩ := hx (of_decide_eq_true h0); rw [hp]; exact LYA.p_wf hok (by have := of_decide_eq_true h0; omega)) (by obtain ⟨_, _, _, hm⟩ := hx (of_decide_eq_true h0); have := hok.1; have := hok.2.1; have := of_decide_eq_true h0; omega) | exact ly_put (pl_wf (by decide) (hok.2.2.2 _ (by have := of_decide_eq_true h1; omega)) (by decide)) (by obtain ⟨_, _, _, hm⟩ := hx (of_decide_eq_true h0); have := hok.1; have := hok.2.1; have := of_decide_eq_true h0; omega))
        have h5 : (plWfB (p0, p1, p2) && m.ble 1000000) = true := by (obtain ⟨i0, i1, hok, hx, hy⟩ := hP; first | exact decide_eq_true ⟨i0, of_decide_eq_true h1, Nat.le_refl _⟩ | (have h := lk_low (a.S i.toNat) a.epoch; exact decide_eq_false (by omega)) | (have h := lk_low 0 a.epoch; exact decide_eq_false (by omega)) | exact ly_put (by obtain ⟨hp, _⟩ := hx (of_decide_eq_true h0); rw [hp]; exact LYA.p_wf hok (by have := of_decide_eq_true h0; omega)) (by obtain ⟨_, _, _, hm⟩ := hx (of_decide_eq_true h0); have := hok.1; have := hok.2.1; have := of_decide_eq_true h0; omega) | exact ly_put (pl_wf (by decide) (hok.2.2.2 _ (by have := of_decide_eq_true h1; omega)) (by decide)) (by obtain ⟨_, _, _, hm⟩ := hx (of_decide_eq_true h0); have := hok.1; have := hok.2.1; have := of_decide_eq_true h0; omega))
        exact Tri.pathP mixed libK_ok (n := 10000) (k := 10000) (j := 0) (cfg := lyCfg) (o := [some true] ++ [some false] ++ [some true] ++ [some false] ++ [some true] ++ [some false]) (g' := .out .nor) (fs' := []) (s' := lyS (a) (IntKind.i64.wrap (i + 1)) (p0) (p1) (p2) (mk) (getL [((p0, p1, p2), lkWord true 0 a.epoch)] F) (m + 1)) (asks := [((decide (i < (↑a.len : Int))), false), ((plWfB (p0, p1, p2) && m.ble 1000000), true), ((decide (lkWord false 0 a.epoch ≥ 9223372036854775808)), false), ((mk), true), ((decide (i < (↑a.len : Int))), false), ((decide (i ≤ (↑a.len : Int))), true)]) rfl (by kernel_rfl) ⟨h1, h5, h8, h3, h1, h0, trivial⟩ (ly_next (a) (IntKind.i64.wrap (i + 1)) (p0) (p1) (p2) (mk) (getL [((p0, p1, p2), lkWord true 0 a.epoch)] F) (m + 1) (by first | exact ly_push hP h1 h3 | exact ly_last hP h0 h1 h3) (ly_less hP h0 hr))
      · have h5 : (plWfB (p0, p1, p2) && m.ble 1000000) = true := by (obtain ⟨i0, i1, hok, hx, hy⟩ := hP; first | exact decide_eq_true ⟨i0, of_decide_eq_true h1, Nat.le_refl _⟩ | (have h := lk_low (a.S i.toNat) a.epoch; exact decide_eq_false (by omega)) | (have h := lk_low 0 a.epoch; exact decide_eq_false (by omega)) | exact ly_put (by obtain ⟨hp, _⟩ := hx (of_decide_eq_true h0); rw [hp]; exact LYA.p_wf hok (by have := of_decide_eq_true h0; omega)) (by obtain ⟨_, _, _, hm⟩ := hx (of_decide_eq_true h0); have := hok.1; have := hok.2.1; have := of_decide_eq_true h0; omega) | exact ly_put (pl_wf (by decide) (hok.2.2.2 _ (by have := of_decide_eq_true h1; omega)) (by decide)) (by obtain ⟨_, _, _, hm⟩ := hx (of_decide_eq_true h0); have := hok.1; have := hok.2.1; have := of_decide_eq_true h0; omega))
        exact Tri.pathP mixed libK_ok (n := 10000) (k := 10000) (j := 0) (cfg := lyCfg) (o := [some true] ++ [some false, some false] ++ [some true] ++ [some false]) (g' := .out .nor) (fs' := []) (s' := lyS (a) (IntKind.i64.wrap (i + 1)) (p0) (p1) (p2) (mk) (getL [((p0, p1, p2), lkWord false 0 a.epoch)] F) (m + 1)) (asks := [((decide (i < (↑a.len : Int))), false), ((plWfB (p0, p1, p2) && m.ble 1000000), true), ((mk), false), ((decide (i < (↑a.len : Int))), false), ((decide (i ≤ (↑a.len : Int))), true)]) rfl (by kernel_rfl) ⟨h1, h5, h3, h1, h0, trivial⟩ (ly_next (a) (IntKind.i64.wrap (i + 1)) (p0) (p1) (p2) (mk) (getL [((p0, p1, p2), lkWord false 0 a.epoch)] F) (m + 1) (by first | exact ly_push hP h1 h3 | exact ly_last hP h0 h1 h3) (ly_less hP h0 hr))
  · exact Tri.pathP mixed libK_ok (n := 10000) (k := 10000) (j := 0) (cfg := lyCfg) (o := [some false]) (g' := .out (.out 0)) (fs' := []) (s' := lyS (a) (i) (p0) (p1) (p2) (mk) (getL [] F) (m)) (asks := [((decide (i ≤ (↑a.len : Int))), false)]) rfl (by kernel_rfl) ⟨h0, trivial⟩ (Tri.fin (ly_exit (a) (i) (p0) (p1) (p2) (mk) (getL [] F) (m) (hP.2.2.2.2 (by have := of_decide_eq_false h0; omega))))
theorem ly_loop (a : LYA) (i p0 p1 p2 : Int) (mk : Bool) (F : Pl → Int) (m : Nat) (hP : lyP a i p0 p1 p2 mk F m) : Tri repAt Tryz.prog lyZ 2 (.go (.loop lyL.1)) lyL.2 (lyS a i p0 p1 p2 mk F m) (lyQ a) := by
  refine Tri.loop (I := lyI a) (fun k s h => ?_) ⟨_, _, _, _, _, _, _, rfl, hP, rfl⟩
  obtain ⟨i, p0, p1, p2, mk, F, m, rfl, hP, hk⟩ := h
  exact ly_round a i p0 p1 p2 mk F m hP hk
theorem ly_start (a : LYA) (ha : a.ok) {c : Chunk Rep} {l : List (Pl × Int)} {g : Pl → Int} (hu : asU c = some (l, g, a.m0)) (hF : a.F0 = getL l g) : Tri repAt Tryz.prog lyZ 2 (.go (bodyOf Tryz.prog lyF)) [] ⟨argsE [.ptr 0 0, iv a.root, iv a.level, iv a.epoch, .tsl 1 a.len], [(0, c), (1, .rep (.vec [.int .i64 a.S, .int .u64 a.K, .int .u64 a.V, .bool a.M] a.len 105))], 2⟩ (lyQ a) := by
  have h0 : (plWfB (1, 0, 0) && a.m0.ble 1000000) = true := ly_put (by decide) (by have := ha.2.1; omega)
  refine Tri.view (swap_view (n := 0) (c1 := .rep (.ucells [] (getL l g) a.m0)) rfl fun B ρ own w e he hat => ⟨own, ?_, fun b hb => hb⟩) ?_
  · show UAt (getL l g) a.m0 e own w
    exact asU_at hu hat
  · rw [← hF]
    exact Tri.pathP mixed libK_ok (n := 10000) (k := 10000) (j := 0) (cfg := lyCfg) (o := [some true]) (g' := .go (.loop lyL.1)) (fs' := lyL.2) (s' := lyS a 0 4 0 a.root false (getL [((1, 0, 0), IntKind.u64.wrap a.epoch)] a.F0) (a.m0 + 1)) (asks := [((plWfB (1, 0, 0) && a.m0.ble 1000000), true)]) rfl (by kernel_rfl) ⟨h0, trivial⟩
      (ly_loop a 0 4 0 a.root false _ _ ⟨by decide, by omega, ha, fun _ => ⟨rfl, rfl, rfl, rfl⟩, fun h => by omega⟩)
/-- What Lay comes to. -/
noncomputable def lySpec : List SV → List (Nat × Chunk Rep) → Br Rep
  | [.ptr 0 0, .v (.int .i64 root), .v (.int .i64 level), .v (.int .i64 epoch), .tsl 1 len], [(0, c), (1, .rep (.vec [.int .i64 S, .int .u64 K, .int .u64 V, .bool M] len' t))] => match asU c, Nat.beq t 105 with
    | some (l, g, k), true => .need (Nat.beq len len') <| .need (propB (LYA.ok ⟨S, K, V, M, len, root, level, epoch, getL l g, k⟩)) (.leaf [] (lyHp (LYA.fin ⟨S, K, V, M, len, root, level, epoch, getL l g, k⟩) (k + 2 + 3 * len) ⟨S, K, V, M, len, root, level, epoch, getL l g, k⟩))
    | _, _ => .fail 701
  | _, _ => .fail 702
theorem ly_sub : SubOK repAt Tryz.prog lyF lySpec := by
  intro args hp
  unfold lySpec
  split
  · next root level epoch len c S K V M len' t =>
    split
    · next l g k hu hb =>
      intro hl h
      obtain rfl := Nat.eq_of_beq_eq_true hb
      obtain rfl := Nat.eq_of_beq_eq_true hl
      exact ⟨_, _, Tryz.func7, rfl, Nat.le_of_ble_eq_true (by kernel_rfl), ly_start ⟨S, K, V, M, len, root, level, epoch, getL l g, k⟩ (of_propB h) hu rfl⟩
    · trivial
  · trivial
end Go.Proofs.YtpaiejeipghehaaGreat
end
section
/- laid of the laws of layer 15: the states at its loop's head. Condition: the words fit. -/
namespace Go.Proofs.YtpaiejeipghehaaGreat
noncomputable abbrev laF : FuncId := 9
noncomputable abbrev laZ : Nat := slotsOf Tryz.prog laF
noncomputable def laL : Code × List Fr := loopOf Tryz.prog laF 0
/-- All words fit. -/
def WfG (G : Pl → Int) : Prop := ∀ p, (Lit.int .u64 (G p)).wf = true
structure LDA where
  G : Pl → Int
  k : Nat
noncomputable def LDA.L (a : LDA) : List Pl := placesOf a.G
def LDA.ok (a : LDA) : Prop := WfG a.G ∧ a.k ≤ 1000000
noncomputable def laS (a : LDA) (i c1 : Int) (H : Pl → Int) (n : Nat) : Sym Rep :=
  ⟨[(3, .ptr 1 0), (4, .tsl 2 (placesOf (getL [] a.G)).length), (0, .ptr 0 0), (5, iv i)],
   [(0, .rep (.ucells [] a.G a.k)), (1, .row [.ptr 3 0] 153), (2, .rep (.vec (colsPl (placesOf (getL [] a.G))) (placesOf (getL [] a.G)).length 51)), (3, .row [.mp 4, iv 0, iv c1, iv 0, iv 0, iv 0] 176), (4, .rep (.pmap [] H n))], 5⟩
def laCfg : Stop → List Gen × List Nat := fun _ => ([.map 0, .map 4], [3, 4, 0, 5])
def laCfg0 : Stop → List Gen × List Nat := fun _ => ([.map 0], [3, 4, 0, 5])
def laCfg2 : Stop → List Gen × List Nat := fun _ => ([], [2])
/-- The words of the first places. -/
noncomputable def LDA.part (a : LDA) (i : Nat) (q : Pl) : Int := @ite _ (q ∈ a.L.take i) (Classical.propDecidable _) (a.G q) 0
def laP (a : LDA) (i c1 : Int) (H : Pl → Int) (n : Nat) : Prop := 0 ≤ i ∧ i ≤ (a.L.length : Int) ∧ c1 = i ∧ H = a.part i.toNat ∧ n = i.toNat ∧ a.ok ∧ IsPlaces a.G a.L ∧ a.L.length ≤ a.k
def laHp (G : Pl → Int) (k c : Nat) : List (Nat × Chunk Rep) := [(0, .rep (.ucells [] G k)), (1, .row [.ptr 2 0] 153), (2, .row [.mp 3, iv 0, iv (c : Int), iv 0, iv 0, iv 0] 176), (3, .rep (.pmap [] G c))]
abbrev laQ (a : LDA) : Ex → Sym Rep → Prop := Ends Tryz.prog Tryz.f9 fun l s => l = [.ptr 1 0] ∧ s.hp = laHp a.G a.k a.L.length
theorem la_at {a : LDA} {i : Int} (i0 : 0 ≤ i) (h0 : i < (a.L.length : Int)) : a.L.getD i.toNat (0, 0, 0) ∈ a.L := getD_mem (by omega)
theorem take_succ_mem {L : List Pl} {i : Nat} (hi : i < L.length) (q : Pl) : q ∈ L.take (i + 1) ↔ q = L.getD i (0, 0, 0) ∨ q ∈ L.take i := by
  rw [List.take_add_one, List.mem_append]
  simp only [List.getD, List.getElem?_eq_getElem hi, Option.getD_some, Option.mem_toList, Option.mem_def, Option.some.injEq]
  constructor
  · rintro (h | h)
    · exact .inr h
    · exact .inl h.symm
  · rintro (h | h)
    · exact .inr h.symm
    · exact .inl h
theorem la_push {a : LDA} {i c1 : Int} {H : Pl → Int} {n : Nat} (hP : laP a i c1 H n) (h0 : decide (i < (a.L.length : Int)) = true) {v : Int} (hv : v = a.G (a.L.getD i.toNat (0, 0, 0))) :
    laP a (IntKind.i64.wrap (i + 1)) (IntKind.i64.wrap (c1 + 1)) (getL [((a.L.getD i.toNat (0, 0, 0)), v)] H) (n + 1) := by
  obtain ⟨i0, i1, hc, hH, hn, hok, hip, hl⟩ := hP
  have e0 := of_decide_eq_true h0
  have hk := hok.2
  have hi : (IntKind.i64.wrap (i + 1)).toNat = i.toNat + 1 := by rw [wrapI (by omega) (by omega)]; omega
  rw [laP, hi, wrapI (x := i + 1) (by omega) (by omega), wrapI (x := c1 + 1) (by omega) (by omega)]
  refine ⟨by omega, by omega, by omega, ?_, by omega, hok, hip, hl⟩
  funext q
  have ht := take_succ_mem (L := a.L) (i := i.toNat) (by omega) q
  by_cases e : q = a.L.getD i.toNat (0, 0, 0)
  · subst e
    simp only [getL, if_true, LDA.part, if_pos (ht.2 (.inl rfl)), hv]
  · simp only [getL, if_neg e, hH, LDA.part]
    by_cases hq : q ∈ a.L.take i.toNat
    · rw [if_pos hq, if_pos (ht.2 (.inr hq))]
    · rw [if_neg hq, if_neg fun h => (ht.1 h).elim e hq]
theorem la_less {a : LDA} {i c1 : Int} {H : Pl → Int} {n : Nat} (hP : laP a i c1 H n) (h0 : decide (i < (a.L.length : Int)) = true) {r : Nat} (hr : r = a.L.length - i.toNat) : a.L.length - (IntKind.i64.wrap (i + 1)).toNat < r := by
  obtain ⟨i0, i1, hc, hH, hn, hok, hip, hl⟩ := hP
  have e0 := of_decide_eq_true h0
  have hk := hok.2
  rw [wrapI (by omega) (by omega)]
  omega
theorem la_put {a : LDA} {p : Pl} {n : Nat} (hok : a.ok) (hip : IsPlaces a.G a.L) (hp : p ∈ a.L) (hn : n ≤ 1000000) : (plWfB p && (Lit.int .u64 (a.G p)).wf && a.G p != 0 && decide (n < maxLen)) = true := by
  have h := (hip.2 p).1 hp
  simp only [plWfB_iff.2 h.1, hok.1 p, bne_iff_ne, Bool.and_eq_true, decide_eq_true_eq, ne_eq, h.2, not_false_iff, true_and, and_true]
  unfold maxLen
  omega
theorem map_congr {w : World} {b n : Nat} {f g : Pl → Int} (h : MapAt w b f n) (he : ∀ p, PlWf p → f p = g p) : MapAt w b g n := by
  obtain ⟨D, h1, h2, h3⟩ := h
  exact ⟨D, h1, fun p hp => by rw [← he p hp]; exact h2 p hp, fun p hp => by rw [← he p hp]; exact h3 p hp⟩
theorem la_over {a : LDA} {i c1 : Int} {H : Pl → Int} {n : Nat} (hP : laP a i c1 H n) (h0 : decide (i < (a.L.length : Int)) = false) : c1 = (a.L.length : Int) ∧ n = a.L.length ∧ ∀ p, PlWf p → H p = a.G p := by
  obtain ⟨i0, i1, hc, hH, hn, hok, hip, hl⟩ := hP
  have e0 := of_decide_eq_false h0
  have hi : i.toNat = a.L.length := by omega
  refine ⟨by omega, by omega, fun p hp => ?_⟩
  rw [hH, hi]
  simp only [LDA.part, List.take_length]
  split
  · rfl
  · next h =>
    by_cases hz : a.G p = 0
    · exact hz.symm
    · exact absurd ((hip.2 p).2 ⟨hp, hz⟩) h
theorem la_fin (a : LDA) {c1 : Int} {H : Pl → Int} {n : Nat} (h : c1 = (a.L.length : Int) ∧ n = a.L.length ∧ ∀ p, PlWf p → H p = a.G p) :
    Tri repAt Tryz.prog laZ 1 (.out .ret) [] ⟨[(2, .ptr 1 0)], [(0, .rep (.ucells [] a.G a.k)), (1, .row [.ptr 2 0] 153), (2, .row [.mp 3, iv 0, iv c1, iv 0, iv 0, iv 0] 176), (3, .rep (.pmap [] H n))], 4⟩ (laQ a) := by
  obtain ⟨rfl, rfl, h⟩ := h
  exact Tri.view (swap_view (n := 3) (c1 := .rep (.pmap [] a.G a.L.length)) rfl fun B ρ own w e he hat => ⟨own, ⟨hat.1, map_congr hat.2 h⟩, fun b hb => hb⟩) (Tri.fin (Ends.of (t := 2) (by kernel_rfl) (.inl rfl) rfl ⟨rfl, rfl⟩))
end Go.Proofs.YtpaiejeipghehaaGreat
end
section
/- laid of the laws of layer 15: its runs from point to point. Condition: the words fit. -/
namespace Go.Proofs.YtpaiejeipghehaaGreat
set_option linter.unusedVariables false
set_option linter.unusedSimpArgs false
set_option maxRecDepth 100000
set_option maxHeartbeats 8000000
def laI (a : LDA) (r : Nat) (s : Sym Rep) : Prop := ∃ (i c1 : Int) (H : Pl → Int) (n : Nat), s = laS a i c1 H n ∧ laP a i c1 H n ∧ r = a.L.length - i.toNat
abbrev laR (a : LDA) (r : Nat) (x : Ex) (s : Sym Rep) : Prop := match x with
  | .nor => ∃ k', k' < r ∧ laI a k' s
  | x => Tri repAt Tryz.prog laZ 1 (.out x) laL.2 s (laQ a)
theorem la_next (a : LDA) (i c1 : Int) (H : Pl → Int) (n : Nat) {r : Nat} (hP : laP a i c1 H n) (hk : a.L.length - i.toNat < r) : Tri repAt Tryz.prog laZ 1 (.out .nor) [] (laS a i c1 H n) (laR a r) := Tri.fin ⟨_, hk, i, c1, H, n, rfl, hP, rfl⟩

theorem la_exit (a : LDA) (i c1 : Int) (H : Pl → Int) (n : Nat) (h : c1 = (a.L.length : Int) ∧ n = a.L.length ∧ ∀ p, PlWf p → H p = a.G p)  : Tri repAt Tryz.prog laZ 1 (.out (.out 0)) laL.2 (laS a i c1 H n) (laQ a) := by
  exact Tri.pathP mixed libK_ok (n := 10000) (k := 10000) (j := 0) (cfg := laCfg2) (o := []) (g' := .out .ret) (fs' := []) (s' := ⟨[(2, SV.ptr 1 0)], [(0, Chunk.rep (Rep.ucells [] a.G a.k)), (1, Chunk.row [SV.ptr 2 0] 153), (2, Chunk.row [SV.mp 3, SV.v (Value.int IntKind.i64 (Int.ofNat 0)), SV.v (Value.int IntKind.i64 c1), SV.v (Value.int IntKind.i64 (Int.ofNat 0)), SV.v (Value.int IntKind.i64 (Int.ofNat 0)), SV.v (Value.int IntKind.i64 (Int.ofNat 0))] 176), (3, Chunk.rep (Rep.pmap [] H n))], 4⟩) (asks := []) rfl (by kernel_rfl) trivial (la_fin a h)
theorem la_round (a : LDA) (i c1 : Int) (H : Pl → Int) (n : Nat) (hP : laP a i c1 H n) {r : Nat} (hr : r = a.L.length - i.toNat) : Tri repAt Tryz.prog laZ 1 (.go laL.1) [] (laS a i c1 H n) (laR a r) := by
  rcases Bool.eq_false_or_eq_true (decide (i < (↑(placesOf (getL [] a.G)).length : Int))) with h0 | h0
  · have h1 : (decide (0 ≤ i ∧ i < (↑(placesOf (getL [] a.G)).length : Int) ∧ (placesOf (getL [] a.G)).length ≤ (placesOf (getL [] a.G)).length)) = true := by (obtain ⟨i0, i1, hc, hH, hn, hok, hip, hl⟩ := hP; first | exact decide_eq_true ⟨i0, of_decide_eq_true h0, Nat.le_refl _⟩ | exact Nat.ble_eq_true_of_le hok.2 | exact beq_eq_false_iff_ne.2 ((hip.2 _).1 (la_at i0 (of_decide_eq_true h0))).2 | exact la_put hok hip (la_at i0 (of_decide_eq_true h0)) (by have := hok.2; have := of_decide_eq_true h0; unfold LDA.L at *; omega))
    have h2 : (a.k.ble 1000000) = true := by (obtain ⟨i0, i1, hc, hH, hn, hok, hip, hl⟩ := hP; first | exact decide_eq_true ⟨i0, of_decide_eq_true h0, Nat.le_refl _⟩ | exact Nat.ble_eq_true_of_le hok.2 | exact beq_eq_false_iff_ne.2 ((hip.2 _).1 (la_at i0 (of_decide_eq_true h0))).2 | exact la_put hok hip (la_at i0 (of_decide_eq_true h0)) (by have := hok.2; have := of_decide_eq_true h0; unfold LDA.L at *; omega))
    have h3 : (getL [] a.G ((fun i => ((placesOf (getL [] a.G)).getD i (0, 0, 0)).fst) i.toNat, (fun i => ((placesOf (getL [] a.G)).getD i (0, 0, 0)).snd.fst) i.toNat, (fun i => ((placesOf (getL [] a.G)).getD i (0, 0, 0)).snd.snd) i.toNat) == 0) = false := by (obtain ⟨i0, i1, hc, hH, hn, hok, hip, hl⟩ := hP; first | exact decide_eq_true ⟨i0, of_decide_eq_true h0, Nat.le_refl _⟩ | exact Nat.ble_eq_true_of_le hok.2 | exact beq_eq_false_iff_ne.2 ((hip.2 _).1 (la_at i0 (of_decide_eq_true h0))).2 | exact la_put hok hip (la_at i0 (of_decide_eq_true h0)) (by have := hok.2; have := of_decide_eq_true h0; unfold LDA.L at *; omega))
    have h4 : (plWfB ((fun i => ((placesOf (getL [] a.G)).getD i (0, 0, 0)).fst) i.toNat, (fun i => ((placesOf (getL [] a.G)).getD i (0, 0, 0)).snd.fst) i.toNat, (fun i => ((placesOf (getL [] a.G)).getD i (0, 0, 0)).snd.snd) i.toNat) && (Lit.int IntKind.u64 (getL [] a.G ((fun i => ((placesOf (getL [] a.G)).getD i (0, 0, 0)).fst) i.toNat, (fun i => ((placesOf (getL [] a.G)).getD i (0, 0, 0)).snd.fst) i.toNat, (fun i => ((placesOf (getL [] a.G)).getD i (0, 0, 0)).snd.snd) i.toNat))).wf && getL [] a.G ((fun i => ((placesOf (getL [] a.G)).getD i (0, 0, 0)).fst) i.toNat, (fun i => ((placesOf (getL [] a.G)).getD i (0, 0, 0)).snd.fst) i.toNat, (fun i => ((placesOf (getL [] a.G)).getD i (0, 0, 0)).snd.snd) i.toNat) != 0 && decide (n < maxLen)) = true := by (obtain ⟨i0, i1, hc, hH, hn, hok, hip, hl⟩ := hP; first | exact decide_eq_true ⟨i0, of_decide_eq_true h0, Nat.le_refl _⟩ | exact Nat.ble_eq_true_of_le hok.2 | exact beq_eq_false_iff_ne.2 ((hip.2 _).1 (la_at i0 (of_decide_eq_true h0))).2 | exact la_put hok hip (la_at i0 (of_decide_eq_true h0)) (by have := hok.2; have := of_decide_eq_true h0; unfold LDA.L at *; omega))
    exact Tri.pathP mixed libK_ok (n := 10000) (k := 10000) (j := 0) (cfg := laCfg) (o := List.replicate 4 (some true) ++ [none, none] ++ [some false] ++ [some true]) (g' := .out .nor) (fs' := []) (s' := laS (a) (IntKind.i64.wrap (i + 1)) (IntKind.i64.wrap (c1 + 1)) (getL [(((fun i => ((placesOf (getL [] a.G)).getD i (0, 0, 0)).fst) i.toNat, (fun i => ((placesOf (getL [] a.G)).getD i (0, 0, 0)).snd.fst) i.toNat, (fun i => ((placesOf (getL [] a.G)).getD i (0, 0, 0)).snd.snd) i.toNat), getL [] a.G ((fun i => ((placesOf (getL [] a.G)).getD i (0, 0, 0)).fst) i.toNat, (fun i => ((placesOf (getL [] a.G)).getD i (0, 0, 0)).snd.fst) i.toNat, (fun i => ((placesOf (getL [] a.G)).getD i (0, 0, 0)).snd.snd) i.toNat))] H) (n + 1)) (asks := [((plWfB ((fun i => ((placesOf (getL [] a.G)).getD i (0, 0, 0)).fst) i.toNat, (fun i => ((placesOf (getL [] a.G)).getD i (0, 0, 0)).snd.fst) i.toNat, (fun i => ((placesOf (getL [] a.G)).getD i (0, 0, 0)).snd.snd) i.toNat) && (Lit.int IntKind.u64 (getL [] a.G ((fun i => ((placesOf (getL [] a.G)).getD i (0, 0, 0)).fst) i.toNat, (fun i => ((placesOf (getL [] a.G)).getD i (0, 0, 0)).snd.fst) i.toNat, (fun i => ((placesOf (getL [] a.G)).getD i (0, 0, 0)).snd.snd) i.toNat))).wf && getL [] a.G ((fun i => ((placesOf (getL [] a.G)).getD i (0, 0, 0)).fst) i.toNat, (fun i => ((placesOf (getL [] a.G)).getD i (0, 0, 0)).snd.fst) i.toNat, (fun i => ((placesOf (getL [] a.G)).getD i (0, 0, 0)).snd.snd) i.toNat) != 0 && decide (n < maxLen)), true), ((getL [] a.G ((fun i => ((placesOf (getL [] a.G)).getD i (0, 0, 0)).fst) i.toNat, (fun i => ((placesOf (getL [] a.G)).getD i (0, 0, 0)).snd.fst) i.toNat, (fun i => ((placesOf (getL [] a.G)).getD i (0, 0, 0)).snd.snd) i.toNat) == 0), false), ((a.k.ble 1000000), true), ((decide (0 ≤ i ∧ i < (↑(placesOf (getL [] a.G)).length : Int) ∧ (placesOf (getL [] a.G)).length ≤ (placesOf (getL [] a.G)).length)), true), ((decide (0 ≤ i ∧ i < (↑(placesOf (getL [] a.G)).length : Int) ∧ (placesOf (getL [] a.G)).length ≤ (placesOf (getL [] a.G)).length)), true), ((decide (i < (↑(placesOf (getL [] a.G)).length : Int))), true)]) rfl (by kernel_rfl) ⟨h4, h3, h2, h1, h1, h0, trivial⟩ (la_next (a) (IntKind.i64.wrap (i + 1)) (IntKind.i64.wrap (c1 + 1)) (getL [(((fun i => ((placesOf (getL [] a.G)).getD i (0, 0, 0)).fst) i.toNat, (fun i => ((placesOf (getL [] a.G)).getD i (0, 0, 0)).snd.fst) i.toNat, (fun i => ((placesOf (getL [] a.G)).getD i (0, 0, 0)).snd.snd) i.toNat), getL [] a.G ((fun i => ((placesOf (getL [] a.G)).getD i (0, 0, 0)).fst) i.toNat, (fun i => ((placesOf (getL [] a.G)).getD i (0, 0, 0)).snd.fst) i.toNat, (fun i => ((placesOf (getL [] a.G)).getD i (0, 0, 0)).snd.snd) i.toNat))] H) (n + 1) (la_push hP h0 rfl) (la_less hP h0 hr))
  · exact Tri.pathP mixed libK_ok (n := 10000) (k := 10000) (j := 0) (cfg := laCfg) (o := [some false]) (g' := .out (.out 0)) (fs' := []) (s' := laS (a) (i) (c1) (getL [] H) (n)) (asks := [((decide (i < (↑(placesOf (getL [] a.G)).length : Int))), false)]) rfl (by kernel_rfl) ⟨h0, trivial⟩ (Tri.fin (la_exit (a) (i) (c1) (getL [] H) (n) (la_over hP h0)))
theorem la_loop (a : LDA) (i c1 : Int) (H : Pl → Int) (n : Nat) (hP : laP a i c1 H n) : Tri repAt Tryz.prog laZ 1 (.go (.loop laL.1)) laL.2 (laS a i c1 H n) (laQ a) := by
  refine Tri.loop (I := laI a) (fun k s h => ?_) ⟨_, _, _, _, rfl, hP, rfl⟩
  obtain ⟨i, c1, H, n, rfl, hP, hk⟩ := h
  exact la_round a i c1 H n hP hk
theorem la_start (a : LDA) (ha : a.ok) : Tri repAt Tryz.prog laZ 1 (.go (bodyOf Tryz.prog laF)) [] ⟨argsE [.ptr 0 0], [(0, .rep (.ucells [] a.G a.k))], 1⟩ (laQ a) := by
  have h0 : a.k.ble 1000000 = true := Nat.ble_eq_true_of_le ha.2
  refine Tri.know (φ := IsPlaces (getL [] a.G) (placesOf (getL [] a.G)) ∧ (placesOf (getL [] a.G)).length ≤ a.k) (fun B ρ own w hs => stand_fin (k := 0) hs rfl) (fun hf => ?_)
  exact Tri.pathP mixed libK_ok (n := 10000) (k := 10000) (j := 0) (cfg := laCfg0) (o := [some true]) (g' := .go (.loop laL.1)) (fs' := laL.2) (s' := laS a 0 0 zeroG 0) (asks := [(a.k.ble 1000000, true)]) rfl (by kernel_rfl) ⟨h0, trivial⟩
    (la_loop a 0 0 zeroG 0 ⟨by decide, by omega, rfl, by funext q; simp [LDA.part, zeroG], rfl, ha, hf.1, hf.2⟩)
/-- What laid comes to. -/
noncomputable def laSpec : List SV → List (Nat × Chunk Rep) → Br Rep
  | [.ptr 0 0], [(0, .rep (.ucells l g k))] => .need (propB (LDA.ok ⟨getL l g, k⟩)) (.leaf [.ptr 1 0] (laHp (getL l g) k (placesOf (getL l g)).length))
  | _, _ => .fail 703
theorem la_sub : SubOK repAt Tryz.prog laF laSpec := by
  intro args hp
  unfold laSpec
  split
  · next l g k =>
    intro h
    refine ⟨_, _, Tryz.func9, rfl, Nat.le_of_ble_eq_true (by kernel_rfl), ?_⟩
    exact Tri.view (swap_view (n := 0) (c1 := .rep (.ucells [] (getL l g) k)) rfl fun B ρ own w e he hat => ⟨own, hat, fun b hb => hb⟩) (la_start ⟨getL l g, k⟩ (of_propB h))
  · trivial
end Go.Proofs.YtpaiejeipghehaaGreat
end
section
/- memory of the laws of layer 15: the states at its loop's head. Condition: both memories hold the same words. -/
namespace Go.Proofs.YtpaiejeipghehaaGreat
noncomputable abbrev libM : Lib Rep := (lib0.with tabL).cells.more primUP
theorem libM_ok : LibOK repAt Tryz.prog libM := Lib.more_ok (Lib.cells_ok (Lib.with_ok lib0_ok tabL_ok)) primUP_ok
noncomputable abbrev meF : FuncId := 24
noncomputable abbrev meZ : Nat := slotsOf Tryz.prog meF
noncomputable def meL : Code × List Fr := loopOf Tryz.prog meF 0
structure MEA where
  G : Pl → Int
  k : Nat
  n : Nat
  c0 : Int
  c1 : Int
  c2 : Int
  c3 : Int
  c4 : Int
def MEA.ok (a : MEA) : Prop := a.k ≤ 1000000 ∧ a.n ≤ 1000000
def meHp (a : MEA) : List (Nat × Chunk Rep) := [(0, .row [.ptr 2 0] 153), (1, .rep (.ucells [] a.G a.k)), (2, .row [.mp 3, iv a.c0, iv a.c1, iv a.c2, iv a.c3, iv a.c4] 176), (3, .rep (.pmap [] a.G a.n))]
noncomputable def meS (a : MEA) (i : Int) : Sym Rep :=
  ⟨[(5, .tsl 4 (placesOf (getL [] a.G)).length), (1, .ptr 1 0), (0, .ptr 0 0), (6, .tsl 5 (placesOf (getL [] a.G)).length), (7, iv i)],
   [(0, .row [.ptr 2 0] 153), (1, .rep (.ucells [] a.G a.k)), (2, .row [.mp 3, iv a.c0, iv a.c1, iv a.c2, iv a.c3, iv a.c4] 176), (3, .rep (.pmap [] a.G a.n)),
    (4, .rep (.vec (colsPl (placesOf (getL [] a.G))) (placesOf (getL [] a.G)).length 51)), (5, .rep (.vec (colsPl (placesOf (getL [] a.G))) (placesOf (getL [] a.G)).length 51))], 6⟩
def meCfg : Stop → List Gen × List Nat
  | .fin .ret _ => ([], [4])
  | _ => ([], [5, 1, 0, 6, 7])
noncomputable def meLen (a : MEA) : Nat := (placesOf (getL [] a.G)).length
def meP (a : MEA) (i : Int) : Prop := 0 ≤ i ∧ i ≤ (meLen a : Int) ∧ a.ok ∧ IsPlaces (getL [] a.G) (placesOf (getL [] a.G)) ∧ meLen a ≤ a.k
abbrev meQ (a : MEA) : Ex → Sym Rep → Prop := Ends Tryz.prog Tryz.f24 fun l s => l = [.v (.bool true)] ∧ s.hp = meHp a
end Go.Proofs.YtpaiejeipghehaaGreat
end
section
/- memory of the laws of layer 15: its runs from point to point. Condition: both memories hold the same words. -/
namespace Go.Proofs.YtpaiejeipghehaaGreat
set_option linter.unusedVariables false
set_option linter.unusedSimpArgs false
set_option maxRecDepth 100000
set_option maxHeartbeats 8000000
def meI (a : MEA) (r : Nat) (s : Sym Rep) : Prop := ∃ (i : Int), s = meS a i ∧ meP a i ∧ r = meLen a - i.toNat
abbrev meR (a : MEA) (r : Nat) (x : Ex) (s : Sym Rep) : Prop := match x with
  | .nor => ∃ k', k' < r ∧ meI a k' s
  | x => Tri repAt Tryz.prog meZ 4 (.out x) meL.2 s (meQ a)
theorem me_next (a : MEA) (i : Int) {r : Nat} (hP : meP a i) (hk : meLen a - i.toNat < r) : Tri repAt Tryz.prog meZ 4 (.out .nor) [] (meS a i) (meR a r) := Tri.fin ⟨_, hk, i, rfl, hP, rfl⟩

theorem me_exit (a : MEA) (i : Int)   : Tri repAt Tryz.prog meZ 4 (.out (.out 0)) meL.2 (meS a i) (meQ a) := by
  exact Tri.pathP mixed libM_ok (n := 10000) (k := 10000) (j := 0) (cfg := meCfg) (o := []) (g' := .out .ret) (fs' := []) (s' := ⟨[(4, SV.v (Value.bool true))], [(0, Chunk.row [SV.ptr 2 0] 153), (1, Chunk.rep (Rep.ucells [] a.G a.k)), (2, Chunk.row [SV.mp 3, SV.v (Value.int IntKind.i64 a.c0), SV.v (Value.int IntKind.i64 a.c1), SV.v (Value.int IntKind.i64 a.c2), SV.v (Value.int IntKind.i64 a.c3), SV.v (Value.int IntKind.i64 a.c4)] 176), (3, Chunk.rep (Rep.pmap [] a.G a.n))], 4⟩) (asks := []) rfl (by kernel_rfl) trivial (Tri.fin (Ends.of (t := 4) (by kernel_rfl) (.inl rfl) rfl ⟨rfl, rfl⟩))
theorem me_round (a : MEA) (i : Int) (hP : meP a i) {r : Nat} (hr : r = meLen a - i.toNat) : Tri repAt Tryz.prog meZ 4 (.go meL.1) [] (meS a i) (meR a r) := by
  rcases Bool.eq_false_or_eq_true (decide (i < (↑(placesOf (getL [] a.G)).length : Int))) with h0 | h0
  · have h1 : (decide (0 ≤ i ∧ i < (↑(placesOf (getL [] a.G)).length : Int) ∧ (placesOf (getL [] a.G)).length ≤ (placesOf (getL [] a.G)).length)) = true := by (obtain ⟨i0, i1, hok, hip, hl⟩ := hP; unfold meLen at *; first | exact Nat.ble_eq_true_of_le hok.1 | exact Nat.ble_eq_true_of_le hok.2 | exact decide_eq_true ⟨i0, of_decide_eq_true h0, Nat.le_refl _⟩ | exact place_wf hip (by have := of_decide_eq_true h0; omega) | exact bne_self_eq_false _ | (simp only [beq_self_eq_true, bne_self_eq_false, Bool.and_self, Bool.not_true, Bool.not_false]; done))
    have h2 : ((fun i => ((placesOf (getL [] a.G)).getD i (0, 0, 0)).fst) i.toNat == (fun i => ((placesOf (getL [] a.G)).getD i (0, 0, 0)).fst) i.toNat && ((fun i => ((placesOf (getL [] a.G)).getD i (0, 0, 0)).snd.fst) i.toNat == (fun i => ((placesOf (getL [] a.G)).getD i (0, 0, 0)).snd.fst) i.toNat && ((fun i => ((placesOf (getL [] a.G)).getD i (0, 0, 0)).snd.snd) i.toNat == (fun i => ((placesOf (getL [] a.G)).getD i (0, 0, 0)).snd.snd) i.toNat && true))) = true := by (obtain ⟨i0, i1, hok, hip, hl⟩ := hP; unfold meLen at *; first | exact Nat.ble_eq_true_of_le hok.1 | exact Nat.ble_eq_true_of_le hok.2 | exact decide_eq_true ⟨i0, of_decide_eq_true h0, Nat.le_refl _⟩ | exact place_wf hip (by have := of_decide_eq_true h0; omega) | exact bne_self_eq_false _ | (simp only [beq_self_eq_true, bne_self_eq_false, Bool.and_self, Bool.not_true, Bool.not_false]; done))
    have h3 : (plWfB ((fun i => ((placesOf (getL [] a.G)).getD i (0, 0, 0)).fst) i.toNat, (fun i => ((placesOf (getL [] a.G)).getD i (0, 0, 0)).snd.fst) i.toNat, (fun i => ((placesOf (getL [] a.G)).getD i (0, 0, 0)).snd.snd) i.toNat)) = true := by (obtain ⟨i0, i1, hok, hip, hl⟩ := hP; unfold meLen at *; first | exact Nat.ble_eq_true_of_le hok.1 | exact Nat.ble_eq_true_of_le hok.2 | exact decide_eq_true ⟨i0, of_decide_eq_true h0, Nat.le_refl _⟩ | exact place_wf hip (by have := of_decide_eq_true h0; omega) | exact bne_self_eq_false _ | (simp only [beq_self_eq_true, bne_self_eq_false, Bool.and_self, Bool.not_true, Bool.not_false]; done))
    have h4 : (a.k.ble 1000000) = true := by (obtain ⟨i0, i1, hok, hip, hl⟩ := hP; unfold meLen at *; first | exact Nat.ble_eq_true_of_le hok.1 | exact Nat.ble_eq_true_of_le hok.2 | exact decide_eq_true ⟨i0, of_decide_eq_true h0, Nat.le_refl _⟩ | exact place_wf hip (by have := of_decide_eq_true h0; omega) | exact bne_self_eq_false _ | (simp only [beq_self_eq_true, bne_self_eq_false, Bool.and_self, Bool.not_true, Bool.not_false]; done))
    have h5 : (getL [] a.G ((fun i => ((placesOf (getL [] a.G)).getD i (0, 0, 0)).fst) i.toNat, (fun i => ((placesOf (getL [] a.G)).getD i (0, 0, 0)).snd.fst) i.toNat, (fun i => ((placesOf (getL [] a.G)).getD i (0, 0, 0)).snd.snd) i.toNat) != getL [] a.G ((fun i => ((placesOf (getL [] a.G)).getD i (0, 0, 0)).fst) i.toNat, (fun i => ((placesOf (getL [] a.G)).getD i (0, 0, 0)).snd.fst) i.toNat, (fun i => ((placesOf (getL [] a.G)).getD i (0, 0, 0)).snd.snd) i.toNat)) = false := by (obtain ⟨i0, i1, hok, hip, hl⟩ := hP; unfold meLen at *; first | exact Nat.ble_eq_true_of_le hok.1 | exact Nat.ble_eq_true_of_le hok.2 | exact decide_eq_true ⟨i0, of_decide_eq_true h0, Nat.le_refl _⟩ | exact place_wf hip (by have := of_decide_eq_true h0; omega) | exact bne_self_eq_false _ | (simp only [beq_self_eq_true, bne_self_eq_false, Bool.and_self, Bool.not_true, Bool.not_false]; done))
    exact Tri.pathP mixed libM_ok (n := 10000) (k := 10000) (j := 0) (cfg := meCfg) (o := List.replicate 3 (some true) ++ List.replicate 4 (some false) ++ [some true] ++ [some false, some false] ++ [none, none] ++ [some true] ++ List.replicate 4 (some false) ++ [some true] ++ [some false, some false] ++ [some true] ++ List.replicate 3 (some false)) (g' := .out .nor) (fs' := []) (s' := meS (a) (IntKind.i64.wrap (i + 1))) (asks := [((getL [] a.G ((fun i => ((placesOf (getL [] a.G)).getD i (0, 0, 0)).fst) i.toNat, (fun i => ((placesOf (getL [] a.G)).getD i (0, 0, 0)).snd.fst) i.toNat, (fun i => ((placesOf (getL [] a.G)).getD i (0, 0, 0)).snd.snd) i.toNat) != getL [] a.G ((fun i => ((placesOf (getL [] a.G)).getD i (0, 0, 0)).fst) i.toNat, (fun i => ((placesOf (getL [] a.G)).getD i (0, 0, 0)).snd.fst) i.toNat, (fun i => ((placesOf (getL [] a.G)).getD i (0, 0, 0)).snd.snd) i.toNat)), false), (!((fun i => ((placesOf (getL [] a.G)).getD i (0, 0, 0)).fst) i.toNat == (fun i => ((placesOf (getL [] a.G)).getD i (0, 0, 0)).fst) i.toNat && ((fun i => ((placesOf (getL [] a.G)).getD i (0, 0, 0)).snd.fst) i.toNat == (fun i => ((placesOf (getL [] a.G)).getD i (0, 0, 0)).snd.fst) i.toNat && ((fun i => ((placesOf (getL [] a.G)).getD i (0, 0, 0)).snd.snd) i.toNat == (fun i => ((placesOf (getL [] a.G)).getD i (0, 0, 0)).snd.snd) i.toNat && true))), false), (!((fun i => ((placesOf (getL [] a.G)).getD i (0, 0, 0)).fst) i.toNat == (fun i => ((placesOf (getL [] a.G)).getD i (0, 0, 0)).fst) i.toNat && ((fun i => ((placesOf (getL [] a.G)).getD i (0, 0, 0)).snd.fst) i.toNat == (fun i => ((placesOf (getL [] a.G)).getD i (0, 0, 0)).snd.fst) i.toNat && ((fun i => ((placesOf (getL [] a.G)).getD i (0, 0, 0)).snd.snd) i.toNat == (fun i => ((placesOf (getL [] a.G)).getD i (0, 0, 0)).snd.snd) i.toNat && true))), false), ((a.k.ble 1000000), true), (!((fun i => ((placesOf (getL [] a.G)).getD i (0, 0, 0)).fst) i.toNat == (fun i => ((placesOf (getL [] a.G)).getD i (0, 0, 0)).fst) i.toNat && ((fun i => ((placesOf (getL [] a.G)).getD i (0, 0, 0)).snd.fst) i.toNat == (fun i => ((placesOf (getL [] a.G)).getD i (0, 0, 0)).snd.fst) i.toNat && ((fun i => ((placesOf (getL [] a.G)).getD i (0, 0, 0)).snd.snd) i.toNat == (fun i => ((placesOf (getL [] a.G)).getD i (0, 0, 0)).snd.snd) i.toNat && true))), false), (!((fun i => ((placesOf (getL [] a.G)).getD i (0, 0, 0)).fst) i.toNat == (fun i => ((placesOf (getL [] a.G)).getD i (0, 0, 0)).fst) i.toNat && ((fun i => ((placesOf (getL [] a.G)).getD i (0, 0, 0)).snd.fst) i.toNat == (fun i => ((placesOf (getL [] a.G)).getD i (0, 0, 0)).snd.fst) i.toNat && ((fun i => ((placesOf (getL [] a.G)).getD i (0, 0, 0)).snd.snd) i.toNat == (fun i => ((placesOf (getL [] a.G)).getD i (0, 0, 0)).snd.snd) i.toNat && true))), false), ((decide (0 ≤ i ∧ i < (↑(placesOf (getL [] a.G)).length : Int) ∧ (placesOf (getL [] a.G)).length ≤ (placesOf (getL [] a.G)).length)), true), (!((fun i => ((placesOf (getL [] a.G)).getD i (0, 0, 0)).fst) i.toNat == (fun i => ((placesOf (getL [] a.G)).getD i (0, 0, 0)).fst) i.toNat && ((fun i => ((placesOf (getL [] a.G)).getD i (0, 0, 0)).snd.fst) i.toNat == (fun i => ((placesOf (getL [] a.G)).getD i (0, 0, 0)).snd.fst) i.toNat && ((fun i => ((placesOf (getL [] a.G)).getD i (0, 0, 0)).snd.snd) i.toNat == (fun i => ((placesOf (getL [] a.G)).getD i (0, 0, 0)).snd.snd) i.toNat && true))), false), (!((fun i => ((placesOf (getL [] a.G)).getD i (0, 0, 0)).fst) i.toNat == (fun i => ((placesOf (getL [] a.G)).getD i (0, 0, 0)).fst) i.toNat && ((fun i => ((placesOf (getL [] a.G)).getD i (0, 0, 0)).snd.fst) i.toNat == (fun i => ((placesOf (getL [] a.G)).getD i (0, 0, 0)).snd.fst) i.toNat && ((fun i => ((placesOf (getL [] a.G)).getD i (0, 0, 0)).snd.snd) i.toNat == (fun i => ((placesOf (getL [] a.G)).getD i (0, 0, 0)).snd.snd) i.toNat && true))), false), (!((fun i => ((placesOf (getL [] a.G)).getD i (0, 0, 0)).fst) i.toNat == (fun i => ((placesOf (getL [] a.G)).getD i (0, 0, 0)).fst) i.toNat && ((fun i => ((placesOf (getL [] a.G)).getD i (0, 0, 0)).snd.fst) i.toNat == (fun i => ((placesOf (getL [] a.G)).getD i (0, 0, 0)).snd.fst) i.toNat && ((fun i => ((placesOf (getL [] a.G)).getD i (0, 0, 0)).snd.snd) i.toNat == (fun i => ((placesOf (getL [] a.G)).getD i (0, 0, 0)).snd.snd) i.toNat && true))), false), (!((fun i => ((placesOf (getL [] a.G)).getD i (0, 0, 0)).fst) i.toNat == (fun i => ((placesOf (getL [] a.G)).getD i (0, 0, 0)).fst) i.toNat && ((fun i => ((placesOf (getL [] a.G)).getD i (0, 0, 0)).snd.fst) i.toNat == (fun i => ((placesOf (getL [] a.G)).getD i (0, 0, 0)).snd.fst) i.toNat && ((fun i => ((placesOf (getL [] a.G)).getD i (0, 0, 0)).snd.snd) i.toNat == (fun i => ((placesOf (getL [] a.G)).getD i (0, 0, 0)).snd.snd) i.toNat && true))), false), ((plWfB ((fun i => ((placesOf (getL [] a.G)).getD i (0, 0, 0)).fst) i.toNat, (fun i => ((placesOf (getL [] a.G)).getD i (0, 0, 0)).snd.fst) i.toNat, (fun i => ((placesOf (getL [] a.G)).getD i (0, 0, 0)).snd.snd) i.toNat)), true), (!((fun i => ((placesOf (getL [] a.G)).getD i (0, 0, 0)).fst) i.toNat == (fun i => ((placesOf (getL [] a.G)).getD i (0, 0, 0)).fst) i.toNat && ((fun i => ((placesOf (getL [] a.G)).getD i (0, 0, 0)).snd.fst) i.toNat == (fun i => ((placesOf (getL [] a.G)).getD i (0, 0, 0)).snd.fst) i.toNat && ((fun i => ((placesOf (getL [] a.G)).getD i (0, 0, 0)).snd.snd) i.toNat == (fun i => ((placesOf (getL [] a.G)).getD i (0, 0, 0)).snd.snd) i.toNat && true))), false), (!((fun i => ((placesOf (getL [] a.G)).getD i (0, 0, 0)).fst) i.toNat == (fun i => ((placesOf (getL [] a.G)).getD i (0, 0, 0)).fst) i.toNat && ((fun i => ((placesOf (getL [] a.G)).getD i (0, 0, 0)).snd.fst) i.toNat == (fun i => ((placesOf (getL [] a.G)).getD i (0, 0, 0)).snd.fst) i.toNat && ((fun i => ((placesOf (getL [] a.G)).getD i (0, 0, 0)).snd.snd) i.toNat == (fun i => ((placesOf (getL [] a.G)).getD i (0, 0, 0)).snd.snd) i.toNat && true))), false), ((decide (0 ≤ i ∧ i < (↑(placesOf (getL [] a.G)).length : Int) ∧ (placesOf (getL [] a.G)).length ≤ (placesOf (getL [] a.G)).length)), true), (!((fun i => ((placesOf (getL [] a.G)).getD i (0, 0, 0)).fst) i.toNat == (fun i => ((placesOf (getL [] a.G)).getD i (0, 0, 0)).fst) i.toNat && ((fun i => ((placesOf (getL [] a.G)).getD i (0, 0, 0)).snd.fst) i.toNat == (fun i => ((placesOf (getL [] a.G)).getD i (0, 0, 0)).snd.fst) i.toNat && ((fun i => ((placesOf (getL [] a.G)).getD i (0, 0, 0)).snd.snd) i.toNat == (fun i => ((placesOf (getL [] a.G)).getD i (0, 0, 0)).snd.snd) i.toNat && true))), false), (!((fun i => ((placesOf (getL [] a.G)).getD i (0, 0, 0)).fst) i.toNat == (fun i => ((placesOf (getL [] a.G)).getD i (0, 0, 0)).fst) i.toNat && ((fun i => ((placesOf (getL [] a.G)).getD i (0, 0, 0)).snd.fst) i.toNat == (fun i => ((placesOf (getL [] a.G)).getD i (0, 0, 0)).snd.fst) i.toNat && ((fun i => ((placesOf (getL [] a.G)).getD i (0, 0, 0)).snd.snd) i.toNat == (fun i => ((placesOf (getL [] a.G)).getD i (0, 0, 0)).snd.snd) i.toNat && true))), false), (!((fun i => ((placesOf (getL [] a.G)).getD i (0, 0, 0)).fst) i.toNat == (fun i => ((placesOf (getL [] a.G)).getD i (0, 0, 0)).fst) i.toNat && ((fun i => ((placesOf (getL [] a.G)).getD i (0, 0, 0)).snd.fst) i.toNat == (fun i => ((placesOf (getL [] a.G)).getD i (0, 0, 0)).snd.fst) i.toNat && ((fun i => ((placesOf (getL [] a.G)).getD i (0, 0, 0)).snd.snd) i.toNat == (fun i => ((placesOf (getL [] a.G)).getD i (0, 0, 0)).snd.snd) i.toNat && true))), false), (!((fun i => ((placesOf (getL [] a.G)).getD i (0, 0, 0)).fst) i.toNat == (fun i => ((placesOf (getL [] a.G)).getD i (0, 0, 0)).fst) i.toNat && ((fun i => ((placesOf (getL [] a.G)).getD i (0, 0, 0)).snd.fst) i.toNat == (fun i => ((placesOf (getL [] a.G)).getD i (0, 0, 0)).snd.fst) i.toNat && ((fun i => ((placesOf (getL [] a.G)).getD i (0, 0, 0)).snd.snd) i.toNat == (fun i => ((placesOf (getL [] a.G)).getD i (0, 0, 0)).snd.snd) i.toNat && true))), false), ((decide (0 ≤ i ∧ i < (↑(placesOf (getL [] a.G)).length : Int) ∧ (placesOf (getL [] a.G)).length ≤ (placesOf (getL [] a.G)).length)), true), ((decide (0 ≤ i ∧ i < (↑(placesOf (getL [] a.G)).length : Int) ∧ (placesOf (getL [] a.G)).length ≤ (placesOf (getL [] a.G)).length)), true), ((decide (i < (↑(placesOf (getL [] a.G)).length : Int))), true)]) rfl (by kernel_rfl) ⟨h5, (by rw [h2]; rfl), (by rw [h2]; rfl), h4, (by rw [h2]; rfl), (by rw [h2]; rfl), h1, (by rw [h2]; rfl), (by rw [h2]; rfl), (by rw [h2]; rfl), (by rw [h2]; rfl), h3, (by rw [h2]; rfl), (by rw [h2]; rfl), h1, (by rw [h2]; rfl), (by rw [h2]; rfl), (by rw [h2]; rfl), (by rw [h2]; rfl), h1, h1, h0, trivial⟩ (me_next (a) (IntKind.i64.wrap (i + 1)) (by obtain ⟨i0, i1, hok, hip, hl⟩ := hP; have := of_decide_eq_true h0; have := hok.1; unfold meP; rw [wrapI (by omega) (by omega)]; exact ⟨by omega, by unfold meLen at *; omega, hok, hip, hl⟩) (by obtain ⟨i0, i1, hok, hip, hl⟩ := hP; have := of_decide_eq_true h0; have := hok.1; rw [wrapI (by omega) (by omega)]; unfold meLen at *; omega))
  · exact Tri.pathP mixed libM_ok (n := 10000) (k := 10000) (j := 0) (cfg := meCfg) (o := [some false]) (g' := .out (.out 0)) (fs' := []) (s' := meS (a) (i)) (asks := [((decide (i < (↑(placesOf (getL [] a.G)).length : Int))), false)]) rfl (by kernel_rfl) ⟨h0, trivial⟩ (Tri.fin (me_exit (a) (i)))
theorem me_loop (a : MEA) (i : Int) (hP : meP a i) : Tri repAt Tryz.prog meZ 4 (.go (.loop meL.1)) meL.2 (meS a i) (meQ a) := by
  refine Tri.loop (I := meI a) (fun k s h => ?_) ⟨_, rfl, hP, rfl⟩
  obtain ⟨i, rfl, hP, hk⟩ := h
  exact me_round a i hP hk
theorem me_start (a : MEA) (ha : a.ok) (hf : IsPlaces (getL [] a.G) (placesOf (getL [] a.G)) ∧ (placesOf (getL [] a.G)).length ≤ a.k)  : Tri repAt Tryz.prog meZ 4 (.go (bodyOf Tryz.prog meF)) [] (⟨argsE [.ptr 0 0, .ptr 1 0], meHp a, 4⟩) (meQ a) := by
  have h0 : (a.n.ble 1000000) = true := by (first | exact Nat.ble_eq_true_of_le ha.1 | exact Nat.ble_eq_true_of_le ha.2 | exact bne_self_eq_false _)
  have h1 : (a.k.ble 1000000) = true := by (first | exact Nat.ble_eq_true_of_le ha.1 | exact Nat.ble_eq_true_of_le ha.2 | exact bne_self_eq_false _)
  have h2 : ((↑(placesOf (getL [] a.G)).length : Int) != (↑(placesOf (getL [] a.G)).length : Int)) = false := by (first | exact Nat.ble_eq_true_of_le ha.1 | exact Nat.ble_eq_true_of_le ha.2 | exact bne_self_eq_false _)
  exact Tri.pathP mixed libM_ok (n := 10000) (k := 10000) (j := 0) (cfg := meCfg) (o := [none, none] ++ [some true, some true] ++ [some false]) (g' := .go (.loop meL.1)) (fs' := meL.2) (s' := meS (a) (Int.ofNat 0)) (asks := [(((↑(placesOf (getL [] a.G)).length : Int) != (↑(placesOf (getL [] a.G)).length : Int)), false), ((a.k.ble 1000000), true), ((a.n.ble 1000000), true)]) rfl (by kernel_rfl) ⟨h2, h1, h0, trivial⟩ (me_loop (a) (Int.ofNat 0) ⟨by decide, Int.natCast_nonneg _, ha, hf.1, hf.2⟩)
/-- What memory comes to. -/
noncomputable def meSpec : List SV → List (Nat × Chunk Rep) → Br Rep
  | [.ptr 0 0, .ptr 1 0], [(0, .row [.ptr 2 0] t), (1, .rep (.ucells l g k)), (2, .row [.mp 3, .v (.int .i64 c0), .v (.int .i64 c1), .v (.int .i64 c2), .v (.int .i64 c3), .v (.int .i64 c4)] t'), (3, .rep (.pmap l' g' n))] =>
    match Nat.beq t 153 && Nat.beq t' 176 with
    | true => .need (propB (getL l' g' = getL l g)) (.need (Nat.ble k 1000000 && Nat.ble n 1000000) (.leaf [.v (.bool true)] (meHp ⟨getL l g, k, n, c0, c1, c2, c3, c4⟩)))
    | false => .fail 705
  | _, _ => .fail 704
theorem me_sub : SubOK repAt Tryz.prog meF meSpec := by
  intro args hp
  unfold meSpec
  split
  · next t l g k c0 c1 c2 c3 c4 t' l' g' n =>
    split
    · next ht =>
      intro h h2
      simp only [Bool.and_eq_true] at ht h2
      obtain rfl := Nat.eq_of_beq_eq_true ht.1
      obtain rfl := Nat.eq_of_beq_eq_true ht.2
      have h := of_propB h
      refine ⟨_, _, Tryz.func24, rfl, Nat.le_of_ble_eq_true (by kernel_rfl), ?_⟩
      refine Tri.view (swap_view (n := 1) (c1 := .rep (.ucells [] (getL l g) k)) rfl fun B ρ own w e he hat => ⟨own, hat, fun b hb => hb⟩) ?_
      refine Tri.view (swap_view (n := 3) (c1 := .rep (.pmap [] (getL l g) n)) rfl fun B ρ own w e he hat => ⟨own, by rw [← h]; exact hat, fun b hb => hb⟩) ?_
      refine Tri.know (φ := IsPlaces (getL [] (getL l g)) (placesOf (getL [] (getL l g))) ∧ (placesOf (getL [] (getL l g))).length ≤ k) (fun B ρ own w hs => stand_fin (k := 1) hs rfl) (fun hf => ?_)
      exact me_start ⟨getL l g, k, n, c0, c1, c2, c3, c4⟩ ⟨Nat.le_of_ble_eq_true h2.1, Nat.le_of_ble_eq_true h2.2⟩ hf
    · trivial
  · trivial
end Go.Proofs.YtpaiejeipghehaaGreat
end
section
/- Runs cut at a region of the text too: a run from point to point goes up to a region of a given number, or to a loop. Condition: the program follows the looser reading of Go's order. -/
namespace Go.Proofs.YtpaiejeipghehaaGreat

section
variable {R : Type} (P : Program)
/-- As stepC, but ahead of region tgt it stops. -/
def stepR (lib : Lib R) (n sz tgt : Nat) : Nat → Nat → Goer → List Fr → Env → M R (Goer × List Fr × Env)
  | 0, _, _, _, _ => .fail 190
  | k + 1, j, .go c, fs, e => match c with
    | .seq a b => stepR lib n sz tgt k j (.go a) (.sq b :: fs) e
    | .block id c => stepR lib n sz tgt k j (.go c) (.bk id :: fs) e
    | .cond x a b => (M.opt 191 (evX e x)).bind fun
      | .v (.bool t) => (askB t).bind fun
        | true => stepR lib n sz tgt k j (.go a) fs e
        | false => stepR lib n sz tgt k j (.go b) fs e
      | _ => .fail 192
    | .loop c => match j with
      | 0 => .ret (.go (.loop c), fs, e)
      | j' + 1 => (runX P lib n sz (.loop c) e).bind fun r => stepR lib n sz tgt k j' (.out r.1) fs r.2
    | .region id ops d => match Nat.beq id tgt with
      | true => .ret (.go (.region id ops d), fs, e)
      | false => (runX P lib n sz (.region id ops d) e).bind fun r => stepR lib n sz tgt k j (.out r.1) fs r.2
    | c => (runX P lib n sz c e).bind fun r => stepR lib n sz tgt k j (.out r.1) fs r.2
  | k + 1, j, .out x, fs, e => match fs with
    | [] => .ret (.out x, [], e)
    | .sq b :: fs => match x with
      | .nor => stepR lib n sz tgt k j (.go b) fs e
      | x => stepR lib n sz tgt k j (.out x) fs e
    | .bk id :: fs => match x with
      | .out i => match Nat.beq i id with
        | true => stepR lib n sz tgt k j (.out .nor) fs e
        | false => stepR lib n sz tgt k j (.out (.out i)) fs e
      | x => stepR lib n sz tgt k j (.out x) fs e
variable {P} {A : RepAt R} {lib : Lib R} {n sz tgt : Nat} {st st1 st' : St R}

def StepR (A : RepAt R) (P : Program) (sz : Nat) (g : Goer) (fs : List Fr) (e : Env) (st st' : St R) (r : Goer × List Fr × Env) : Prop := Fn st st' ∧ ∀ B F ρ own w a, Sit A P B F st st' ρ own w → EnvR ρ e a → a.tmps.size = sz →
  ∀ (Q : Exit → Act → World → Prop), (∀ a' ρ' own' w', Tr A P B F st st' ρ own w ρ' own' w' → EnvR ρ' r.2.2 a' → a'.tmps.size = sz → a'.defers = a.defers → goWp P r.1 r.2.1 Q a' w') → goWp P g fs Q a w

theorem StepR.run {c : Code} {fs : List Fr} {e e1 : Env} {x : Ex} {r : Goer × List Fr × Env} (h1 : CodeS A P sz (fun Q a w => c.wp P Q a w) e st st1 (x, e1)) (h2 : StepR A P sz (.out x) fs e1 st1 st' r) : StepR A P sz (.go c) fs e st st' r := by
  refine ⟨h1.1.trans h2.1, fun B F ρ own w a si he hz Q hk => ?_⟩
  refine h1.2 B F ρ own w a (si.head h1.1 h2.1) he hz _ (fun a1 ρ1 own1 w1 t1 he1 hz1 hd1 => ?_)
  exact h2.2 B _ ρ1 own1 w1 a1 (si.next h1.1 h2.1 t1) he1 hz1 Q (fun a' ρ' own' w' t2 he2 hz2 hd2 => hk a' ρ' own' w' (t1.trans t2 h1.1 h2.1 (h1.1.wf si.wf)) he2 hz2 (hd2.trans hd1))
theorem StepR.here {g : Goer} {fs : List Fr} {e : Env} : StepR A P sz g fs e st st (g, fs, e) :=
  ⟨Fn.refl _, fun _ _ ρ own w a si he hz _ hk => hk a ρ own w (si.quiet (Quiet.refl _)) he hz rfl⟩

theorem stepR_s (hm : P.follows .mixedOrders = true) (hp : LibOK A P lib) : ∀ {k j : Nat} {g : Goer} {fs : List Fr} {e : Env} {st st' : St R} {r : Goer × List Fr × Env}, stepR P lib n sz tgt k j g fs e st = .ok r st' → StepR A P sz g fs e st st' r
  | 0, _, _, _, _, _, _, _, h => (fail_ok.1 h).elim
  | k + 1, j, .go c, fs, e, st, st', r, h => by
    have hr := (run_s hm hp n).1
    have plain : ∀ {c : Code} {j' : Nat}, (runX P lib n sz c e).bind (fun r => stepR P lib n sz tgt k j' (.out r.1) fs r.2) st = .ok r st' → StepR A P sz (.go c) fs e st st' r := by
      intro c j' h
      obtain ⟨⟨x, e1⟩, st1, h1, h2⟩ := bind_ok.1 h
      exact StepR.run (hr _ _ _ _ _ _ h1) (stepR_s hm hp h2)
    unfold stepR at h
    split at h
    · next a b =>
      obtain ⟨hf, hs⟩ := stepR_s hm hp h
      exact ⟨hf, fun B F ρ own w a si he hz Q hk => wp_seq (hs B F ρ own w a si he hz Q hk)⟩
    · next id c =>
      obtain ⟨hf, hs⟩ := stepR_s hm hp h
      exact ⟨hf, fun B F ρ own w a si he hz Q hk => wp_block (hs B F ρ own w a si he hz Q hk)⟩
    · next x a b =>
      obtain ⟨s, _, h1, h2⟩ := bind_ok.1 h
      obtain ⟨hs, rfl⟩ := opt_ok.1 h1
      split at h2
      · next t =>
        obtain ⟨o, st1, h3, h4⟩ := bind_ok.1 h2
        obtain ⟨q, hq⟩ := ask_ok h3
        have key : ∀ {z : Code}, stepR P lib n sz tgt k j (.go z) fs e st1 = .ok r st' → ((∀ p ∈ st'.ask, p.1 = p.2) → (if t = true then a else b) = z) → StepR A P sz (.go (.cond x a b)) fs e st st' r := by
          intro z hz hsel
          have g := stepR_s hm hp hz
          refine ⟨q.fn.trans g.1, fun B F ρ own w a' si he hsz Q hk => ?_⟩
          have ev := he.ev _ _ hs
          simp only [den, Option.some.injEq] at ev
          refine wp_cond ev.symm ?_
          rw [hsel si.ask]
          exact g.2 B F ρ own w a' (si.of_quiet q) he hsz Q (fun a' ρ' own' w' t' => hk a' ρ' own' w' (Tr.of_quiet q t'))
        cases o with
        | true =>
          refine key h4 (fun ha => ?_)
          rw [hq (fun p hx => ha p ((stepR_s hm hp h4).1.ask p hx)), if_pos rfl]
        | false =>
          refine key h4 (fun ha => ?_)
          rw [hq (fun p hx => ha p ((stepR_s hm hp h4).1.ask p hx))]
          rfl
      · exact (fail_ok.1 h2).elim
    · next c =>
      cases j with
      | zero =>
        obtain ⟨rfl, rfl⟩ := ret_ok.1 h
        exact StepR.here
      | succ j => exact plain h
    · next id ops d =>
      cases hb : Nat.beq id tgt with
      | true =>
        rw [hb] at h
        obtain ⟨rfl, rfl⟩ := ret_ok.1 h
        exact StepR.here
      | false =>
        rw [hb] at h
        exact plain h
    · exact plain h
  | k + 1, j, .out x, fs, e, st, st', r, h => by
    unfold stepR at h
    split at h
    · obtain ⟨rfl, rfl⟩ := ret_ok.1 h
      exact StepR.here
    · next b fs =>
      split at h
      · obtain ⟨hf, hs⟩ := stepR_s hm hp h
        exact ⟨hf, fun B F ρ own w a si he hz Q hk => hs B F ρ own w a si he hz Q hk⟩
      · next hx =>
        obtain ⟨hf, hs⟩ := stepR_s hm hp h
        refine ⟨hf, fun B F ρ own w a si he hz Q hk => ?_⟩
        have := hs B F ρ own w a si he hz Q hk
        cases x with
        | nor => exact absurd rfl hx
        | ret => exact this
        | out i => exact this
    · next id fs =>
      cases x with
      | out i =>
        simp only at h
        cases hb : Nat.beq i id with
        | true =>
          rw [hb] at h
          have hid := Nat.eq_of_beq_eq_true hb
          subst hid
          obtain ⟨hf, hs⟩ := stepR_s hm hp h
          refine ⟨hf, fun B F ρ own w a si he hz Q hk => ?_⟩
          have := hs B F ρ own w a si he hz Q hk
          simpa [goWp, wpF, Exit.inBlock, Ex.exit] using this
        | false =>
          rw [hb] at h
          have hid := Nat.ne_of_beq_eq_false hb
          obtain ⟨hf, hs⟩ := stepR_s hm hp h
          refine ⟨hf, fun B F ρ own w a si he hz Q hk => ?_⟩
          have := hs B F ρ own w a si he hz Q hk
          simpa [goWp, wpF, Exit.inBlock, Ex.exit, hid] using this
      | nor =>
        obtain ⟨hf, hs⟩ := stepR_s hm hp h
        exact ⟨hf, fun B F ρ own w a si he hz Q hk => hs B F ρ own w a si he hz Q hk⟩
      | ret =>
        obtain ⟨hf, hs⟩ := stepR_s hm hp h
        exact ⟨hf, fun B F ρ own w a si he hz Q hk => hs B F ρ own w a si he hz Q hk⟩

variable {pin : Nat} {g g' : Goer} {fs fs' : List Fr} {s s' : Sym R} {Q : Ex → Sym R → Prop}
theorem Tri.runR (hm : P.follows .mixedOrders = true) (hl : LibOK A P lib) {k j : Nat} {o : List (Option Bool)} {r : Goer × List Fr × Env} {st' : St R} (h : stepR P lib n sz tgt k j g fs s.e ⟨s.hp, s.nx, [], [], [], o⟩ = .ok r st') (ha : ∀ p ∈ st'.ask, p.1 = p.2) (hpin : pin ≤ s.nx)
    (ht : Tri A P sz pin r.1 r.2.1 ⟨r.2.2, st'.hp, st'.nx⟩ Q) : Tri A P sz pin g fs s Q := by
  obtain ⟨hf, hs⟩ := stepR_s hm hl h
  intro B ρ own w a hst he hz K hk
  have hwf : Wf (⟨s.hp, s.nx, [], [], [], o⟩ : St R) := ⟨(fun n hn => by cases hn), hst.top⟩
  have hwf' := hf.wf hwf
  refine hs B (fun _ => True) ρ own w a ⟨fun _ _ => trivial, hwf, fun n hn => hst.fresh n hn.1, hst.li, ha, hst.base⟩ he hz K (fun a1 ρ1 own1 w1 t1 he1 hz1 hd1 => ?_)
  have old : ∀ m, m ∈ st'.wr → ¬ newN (⟨s.hp, s.nx, [], [], [], o⟩ : St R) st' m → ∃ c, hget m s.hp = some c := fun m hm hn => by
    rcases hf.al m hm with h1 | h1 | h1
    · cases h1
    · exact absurd ⟨h1, (hwf'.wr m hm).2⟩ hn
    · exact h1
  have way : Way s.hp own w st'.hp own1 w1 := by
    refine ⟨t1.mod.mono fun b _ ⟨m, h1, h2, h3⟩ => ?_, fun n c hc b hb => ?_⟩
    · obtain ⟨c, hc⟩ := old m h1 h2
      exact ⟨m, c, hc, h3⟩
    · by_cases h1 : newN (⟨s.hp, s.nx, [], [], [], o⟩ : St R) st' n ∨ n ∈ st'.wr
      · rcases t1.pool n h1 b hb with h2 | ⟨m, h2, h3, h4⟩
        · exact .inl h2
        · obtain ⟨d, hd⟩ := old m h2 h3
          exact .inr ⟨m, d, hd, h4⟩
      · rw [not_or] at h1
        rw [t1.same n h1.1 h1.2] at hb
        have hlt := hwf'.lt hc
        have h2 : n < s.nx := by
          rcases Nat.lt_or_ge n s.nx with h | h
          · exact h
          · exact absurd ⟨h, hlt⟩ h1.1
        exact .inr ⟨n, c, (hf.hp n h1.2 h2).symm.trans hc, hb⟩
  refine ht B ρ1 own1 w1 a1 ⟨t1.li.sub fun _ _ => .inl trivial, hwf'.top, fun n hn => ?_, Nat.le_trans hst.base t1.mod.size⟩ he1 hz1 K (fun x s2 ρ2 own2 w2 a2 hq h2 he2 hz2 hd2 hw2 hp2 => hk x s2 ρ2 own2 w2 a2 hq h2 he2 hz2 (hd2.trans hd1) (way.trans hw2) (fun n hn => ?_))
  · simp only at hn
    rw [t1.out n (fun h => by have := h.2; omega)]
    exact hst.fresh n (Nat.le_trans hf.nx hn)
  · rw [hp2 n hn, t1.out n (fun h => by have h1 := h.1; simp only at h1; omega)]
/-- The regions of a text, each with what stands round it. -/
def cutsC : Code → List Fr → List (Nat × Code × List Fr)
  | .seq a b, fs => cutsC a (.sq b :: fs) ++ cutsC b fs
  | .block id c, fs => cutsC c (.bk id :: fs)
  | .cond _ a b, fs => cutsC a fs ++ cutsC b fs
  | .region id ops d, fs => [(id, .region id ops d, fs)]
  | _, _ => []
def cutAt (tgt : Nat) : List (Nat × Code × List Fr) → Code × List Fr
  | [] => (.skip, [])
  | (id, c, fs) :: r => match Nat.beq id tgt with
    | true => (c, fs)
    | false => cutAt tgt r
/-- Region tgt within a text. -/
def cutIn (c : Code) (tgt : Nat) : Code × List Fr := cutAt tgt (cutsC c [])
end
section
variable {P : Program}
/-- Kinds of ends, for a choice of what is seen how. -/
def pathR (P : Program) (lib : Lib Rep) (tgt n sz k j : Nat) (cfg : Goer → List Gen × List Nat) (g : Goer) (fs : List Fr) (s : Sym Rep) (o : List (Option Bool)) : Option (Goer × List Fr × Sym Rep × List (Bool × Bool)) := match stepR P lib n sz tgt k j g fs s.e ⟨s.hp, s.nx, [], [], [], o⟩ with
  | .ok (g', fs', e) st => match normX P (cfg g').1 [] (cfg g').2 ⟨e, st.hp, st.nx⟩ with
    | some s' => some (g', fs', s', st.ask)
    | none => none
  | .no _ _ => none
theorem Tri.pathR {lib : Lib Rep} {tgt n sz k j : Nat} {g g' : Goer} {fs fs' : List Fr} {s s' : Sym Rep} {Q : Ex → Sym Rep → Prop} (hm : P.follows .mixedOrders = true) (hl : LibOK repAt P lib) {cfg : Goer → List Gen × List Nat} {o : List (Option Bool)} {asks : List (Bool × Bool)} (h : pathR P lib tgt n sz k j cfg g fs s o = some (g', fs', s', asks)) (ha : AllAsk asks)
    (ht : Tri repAt P sz 0 g' fs' s' Q) : Tri repAt P sz 0 g fs s Q := by
  unfold Go.Proofs.YtpaiejeipghehaaGreat.pathR at h
  split at h
  · next g1 fs1 e1 st hr =>
    split at h
    · next s1 hs =>
      simp only [Option.some.injEq, Prod.mk.injEq] at h
      obtain ⟨rfl, rfl, rfl, rfl⟩ := h
      exact Tri.runR hm hl hr ha.all (Nat.zero_le _) (Tri.view (norm_view hs) ht)
    · cases h
  · cases h
end
end Go.Proofs.YtpaiejeipghehaaGreat
end
section
/- nodes of the laws of layer 15: the states at its loop's head, and what it keeps. No condition. -/
namespace Go.Proofs.YtpaiejeipghehaaGreat
noncomputable abbrev ndF : FuncId := 8
noncomputable abbrev ndZ : Nat := slotsOf Tryz.prog ndF
noncomputable def ndL : Code × List Fr := loopOf Tryz.prog ndF 0
structure NA where
  S : Nat → Int
  K : Nat → Int
  V : Nat → Int
  M : Nat → Bool
  len : Nat
def ndSlot (s : Int) : Int := IntKind.i64.wrap (1 + IntKind.i64.wrap ((IntKind.u64.wrap s).tmod 1000))
structure Nd where
  S : Int
  K : Int
  V : Int
  M : Bool
def ndD : Nd := ⟨0, 0, 0, false⟩
def NA.at (a : NA) (k : Nat) : Nd := ⟨ndSlot (a.S k), a.K k, a.V k, a.M k⟩
/-- What is kept of the first rows. -/
def NA.row (a : NA) : Nat → List Nd
  | 0 => []
  | k + 1 => if (a.row k).any (fun x => x.S == ndSlot (a.S k)) = true then a.row k else a.row k ++ [a.at k]
def NA.out (a : NA) : List Nd := a.row (min a.len 40)
def ndCols (L : List Nd) : List Col := [.int .i64 fun i => (L.getD i ndD).S, .int .u64 fun i => (L.getD i ndD).K, .int .u64 fun i => (L.getD i ndD).V, .bool fun i => (L.getD i ndD).M]
def ndArg (a : NA) : Nat × Chunk Rep := (0, .rep (.tab [.int .i64 a.S, .int .u64 a.K, .int .u64 a.V, .bool a.M] a.len))
def ndS (a : NA) (i : Int) (OS OK OV : Nat → Int) (OM : Nat → Bool) (n : Nat) (Z : Nat → Bool) : Sym Rep :=
  ⟨[(3, .tsl 1 n), (4, .ptr 2 0), (0, .tsl 0 a.len), (5, iv i)], [(0, .rep (.tab [.int .i64 a.S, .int .u64 a.K, .int .u64 a.V, .bool a.M] a.len)), (1, .rep (.vec [.int .i64 OS, .int .u64 OK, .int .u64 OV, .bool OM] n 105)), (2, .rep (.vec [.bool Z] 1001 111))], 3⟩
def ndCfg0 : Stop → List Gen × List Nat := fun _ => ([.row 1 0 [.int .i64, .int .u64, .int .u64, .bool], .arr 2 1001 [.bool]], [3, 4, 0, 5])
def ndCfg : Stop → List Gen × List Nat := fun _ => ([], [3, 4, 0, 5])
def ndCfg2 : Stop → List Gen × List Nat := fun _ => ([], [2])
def ndP (a : NA) (i : Int) (OS OK OV : Nat → Int) (OM : Nat → Bool) (n : Nat) (Z : Nat → Bool) : Prop :=
  0 ≤ i ∧ i ≤ (a.len : Int) ∧ i ≤ 40 ∧ n = (a.row i.toNat).length ∧ n ≤ i.toNat ∧ (∀ j, j < n → (⟨OS j, OK j, OV j, OM j⟩ : Nd) = (a.row i.toNat).getD j ndD) ∧ ∀ j : Nat, Z j = (a.row i.toNat).any (fun x => x.S == (j : Int))
def ndHp (L : List Nd) (a : NA) : List (Nat × Chunk Rep) := [ndArg a, (1, .rep (.vec (ndCols L) L.length 105))]
abbrev ndQ (a : NA) : Ex → Sym Rep → Prop := Ends Tryz.prog Tryz.f8 fun l s => l = [.tsl 1 a.out.length] ∧ s.hp = ndHp a.out a
theorem ndSlot_le (s : Int) : 1 ≤ ndSlot s ∧ ndSlot s ≤ 1000 := by
  unfold ndSlot
  have hw := wrapU_pos s
  rw [Int.tmod_eq_emod_of_nonneg hw.1, wrapI (x := _ % 1000) (by omega) (by omega), wrapI (by omega) (by omega)]
  omega
theorem nd_push {a : NA} {i : Int} {OS OK OV : Nat → Int} {OM : Nat → Bool} {n : Nat} {Z : Nat → Bool} (hP : ndP a i OS OK OV OM n Z) (h0 : decide (i < (a.len : Int)) = true) (h1 : decide (i < 40) = true) (h4 : Z (ndSlot (a.S i.toNat)).toNat = false) :
    ndP a (IntKind.i64.wrap (i + 1)) (joinI OS n fun _ => ndSlot (a.S i.toNat)) (joinI OK n fun _ => a.K i.toNat) (joinI OV n fun _ => a.V i.toNat) (joinI OM n fun _ => a.M i.toNat) (n + 1) (updI Z (ndSlot (a.S i.toNat)).toNat true) := by
  obtain ⟨i0, i1, i2, hn, hni, hr, hz⟩ := hP
  have e0 := of_decide_eq_true h0
  have e1 := of_decide_eq_true h1
  have hs := ndSlot_le (a.S i.toNat)
  have hi : (IntKind.i64.wrap (i + 1)).toNat = i.toNat + 1 := by rw [wrapI (by omega) (by omega)]; omega
  have hc : ((ndSlot (a.S i.toNat)).toNat : Int) = ndSlot (a.S i.toNat) := by omega
  have hrow : a.row (i.toNat + 1) = a.row i.toNat ++ [a.at i.toNat] := by
    rw [hz, hc] at h4
    simp only [NA.row, h4]
    rfl
  rw [ndP, hi, hrow, wrapI (by omega) (by omega)]
  refine ⟨by omega, by omega, by omega, by simp [hn], by omega, fun j hj => ?_, fun j => ?_⟩
  · by_cases e : j < n
    · rw [joinI_old e, joinI_old e, joinI_old e, joinI_old e, hr j e]
      simp only [List.getD, List.getElem?_append_left (show j < (a.row i.toNat).length by omega)]
    · obtain rfl : j = n := by omega
      rw [joinI_new (Nat.le_refl _), joinI_new (Nat.le_refl _), joinI_new (Nat.le_refl _), joinI_new (Nat.le_refl _)]
      simp only [List.getD, hn, List.getElem?_concat_length, Option.getD_some]
      rfl
  · rw [List.any_append]
    by_cases e : j = (ndSlot (a.S i.toNat)).toNat
    · subst e
      rw [updI_same]
      simp [NA.at, hc]
    · rw [updI_other e, hz j]
      have : (ndSlot (a.S i.toNat) == (j : Int)) = false := by rw [beq_eq_false_iff_ne]; omega
      simp [NA.at, this]
theorem nd_skip {a : NA} {i : Int} {OS OK OV : Nat → Int} {OM : Nat → Bool} {n : Nat} {Z : Nat → Bool} (hP : ndP a i OS OK OV OM n Z) (h0 : decide (i < (a.len : Int)) = true) (h1 : decide (i < 40) = true) (h4 : Z (ndSlot (a.S i.toNat)).toNat = true) :
    ndP a (IntKind.i64.wrap (i + 1)) OS OK OV OM n Z := by
  obtain ⟨i0, i1, i2, hn, hni, hr, hz⟩ := hP
  have e0 := of_decide_eq_true h0
  have e1 := of_decide_eq_true h1
  have hs := ndSlot_le (a.S i.toNat)
  have hi : (IntKind.i64.wrap (i + 1)).toNat = i.toNat + 1 := by rw [wrapI (by omega) (by omega)]; omega
  have hc : ((ndSlot (a.S i.toNat)).toNat : Int) = ndSlot (a.S i.toNat) := by omega
  have hrow : a.row (i.toNat + 1) = a.row i.toNat := by
    rw [hz, hc] at h4
    simp only [NA.row, h4]
    rfl
  rw [ndP, hi, hrow, wrapI (by omega) (by omega)]
  exact ⟨by omega, by omega, by omega, hn, by omega, hr, hz⟩
theorem nd_less {a : NA} {i : Int} {OS OK OV : Nat → Int} {OM : Nat → Bool} {n : Nat} {Z : Nat → Bool} (hP : ndP a i OS OK OV OM n Z) (h1 : decide (i < 40) = true) {r : Nat} (hr : r = 40 - i.toNat) : 40 - (IntKind.i64.wrap (i + 1)).toNat < r := by
  obtain ⟨i0, i1, i2, _⟩ := hP
  have e1 := of_decide_eq_true h1
  rw [wrapI (by omega) (by omega)]
  omega
theorem nd_over {a : NA} {i : Int} {OS OK OV : Nat → Int} {OM : Nat → Bool} {n : Nat} {Z : Nat → Bool} (hP : ndP a i OS OK OV OM n Z) (h : decide (i < (a.len : Int)) = false ∨ decide (i < 40) = false) : n = a.out.length ∧ ∀ j, j < n → colsF [.int .i64 OS, .int .u64 OK, .int .u64 OV, .bool OM] j = colsF (ndCols a.out) j := by
  obtain ⟨i0, i1, i2, hn, hni, hr, hz⟩ := hP
  have : i.toNat = min a.len 40 := by
    rcases h with h | h <;> have := of_decide_eq_false h <;> omega
  rw [this] at hn hr
  refine ⟨hn, fun j hj => ?_⟩
  have := hr j hj
  simp only [ndCols, colsF, Col.at, NA.out, ← this]
theorem nd_fin (a : NA) {OS OK OV : Nat → Int} {OM : Nat → Bool} {n : Nat} (h : n = a.out.length ∧ ∀ j, j < n → colsF [.int .i64 OS, .int .u64 OK, .int .u64 OV, .bool OM] j = colsF (ndCols a.out) j) :
    Tri repAt Tryz.prog ndZ 1 (.out .ret) [] ⟨[(2, .tsl 1 n)], [(0, .rep (.tab [.int .i64 a.S, .int .u64 a.K, .int .u64 a.V, .bool a.M] a.len)), (1, .rep (.vec [.int .i64 OS, .int .u64 OK, .int .u64 OV, .bool OM] n 105))], 2⟩ (ndQ a) := by
  obtain ⟨rfl, h⟩ := h
  refine Tri.view (vec_view (n := 1) (cs' := ndCols a.out) rfl rfl h) (Tri.fin (Ends.of (t := 2) (by kernel_rfl) (.inl rfl) rfl ⟨rfl, rfl⟩))
/-- What is kept: different slots from 1 to 1000, 40 at most. -/
theorem NA.row_ok (a : NA) : ∀ k, (a.row k).length ≤ k ∧ (∀ x ∈ a.row k, 1 ≤ x.S ∧ x.S ≤ 1000) ∧ (a.row k).Pairwise (fun x y => x.S ≠ y.S)
  | 0 => ⟨Nat.le_refl _, (fun _ h => by cases h), List.Pairwise.nil⟩
  | k + 1 => by
    obtain ⟨h1, h2, h3⟩ := a.row_ok k
    simp only [NA.row]
    split
    · exact ⟨by omega, h2, h3⟩
    · next hc =>
      refine ⟨by simp; omega, fun x hx => ?_, List.pairwise_append.2 ⟨h3, by simp, fun x hx y hy => ?_⟩⟩
      · rcases List.mem_append.1 hx with hx | hx
        · exact h2 x hx
        · rw [List.mem_singleton] at hx
          subst hx
          exact ndSlot_le _
      · rw [List.mem_singleton] at hy
        subst hy
        intro e
        exact hc (List.any_eq_true.2 ⟨x, hx, by simp [e, NA.at]⟩)
theorem NA.out_ok (a : NA) : a.out.length ≤ 40 ∧ (∀ x ∈ a.out, 1 ≤ x.S ∧ x.S ≤ 1000) ∧ a.out.Pairwise (fun x y => x.S ≠ y.S) := by
  obtain ⟨h1, h2, h3⟩ := a.row_ok (min a.len 40)
  exact ⟨by unfold NA.out; omega, h2, h3⟩
end Go.Proofs.YtpaiejeipghehaaGreat
end
