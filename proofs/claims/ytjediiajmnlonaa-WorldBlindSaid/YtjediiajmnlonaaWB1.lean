/- WorldBlind: the states at its loop's head. No condition. -/
import Derived.Test.YtjediiajmnlonaaV5
import Derived.Test.YtjediiajmnlonaaWB0
import Derived.Test.YtjediiajmnlonaaC1
import Derived.Test.YtjediiajmnlonaaCE1
namespace Go.Proofs.Ytjediiajmnlonaa
/-- The accesses' columns, and the ids. -/
structure WBA where
  K : Nat → Int
  A0 : Nat → Int
  A1 : Nat → Int
  A2 : Nat → Int
  AI : Nat → Int
  OW : Nat → Int
  OI : Nat → Int
  OS : Nat → Bool
  VW : Nat → Int
  VI : Nat → Int
  VS : Nat → Bool
  J : Nat → Int
def WBA.cols (a : WBA) : List Col := [.int .i64 a.K, .int .i64 a.A0, .int .i64 a.A1, .int .i64 a.A2, .int .i64 a.AI, .int .u64 a.OW, .int .i64 a.OI, .bool a.OS, .int .u64 a.VW, .int .i64 a.VI, .bool a.VS]
/-- All numbers fit their kinds. -/
def WBA.ok (a : WBA) (len : Nat) : Prop := ∀ j, j < len → plWfB (a.A0 j, a.A1 j, a.A2 j) = true ∧ (Lit.int .u64 (a.VW j)).wf = true
def wbS (a : WBA) (len lj : Nat) (i c0 c1 c2 c3 c4 : Int) (G : Pl → Int) (n : Nat) : Sym Rep :=
  ⟨[(6, .ptr 0 0), (5, .ptr 1 0), (1, .tsl 2 lj), (0, .tsl 3 len), (7, iv i)],
   [(0, .row [.ptr 4 0] 169), (1, .row [.ptr 5 0] 169), (2, .rep (.tab [.int .i64 a.J] lj)),
    (3, .rep (.tab [.int .i64 a.K, .int .i64 a.A0, .int .i64 a.A1, .int .i64 a.A2, .int .i64 a.AI, .int .u64 a.OW, .int .i64 a.OI, .bool a.OS, .int .u64 a.VW, .int .i64 a.VI, .bool a.VS] len)),
    (4, .row [.mp 6, iv c0, iv c1, iv c2, iv c3, iv c4] 173), (5, .row [.mp 7, iv c0, iv c1, iv c2, iv c3, iv c4] 173), (6, .rep (.pmap [] G n)), (7, .rep (.pmap [] G n))], 8⟩
def wbCfg : Stop → List Gen × List Nat
  | .fin .ret _ => ([], [4])
  | _ => ([.map 6, .map 7], [6, 5, 1, 0, 7])
def WBP (a : WBA) (len : Nat) (i : Int) (n : Nat) : Prop := 0 ≤ i ∧ i ≤ 150 ∧ (n : Int) ≤ i ∧ a.ok len
theorem wb_put {z : Int} {n : Nat} {p : Pl} (hp : plWfB p = true) (hw : (Lit.int .u64 z).wf = true) (h0 : (z == 0) = false) (hn : (n : Int) ≤ 1000) : (plWfB p && (Lit.int IntKind.u64 z).wf && z != 0 && decide (n < maxLen)) = true := by
  simp only [Bool.and_eq_true, bne, h0, decide_eq_true_eq, hp, hw, true_and, Bool.not_false]
  unfold maxLen
  omega
theorem wrap_wf (z : Int) : (Lit.int .u64 (IntKind.u64.wrap z)).wf = true := by
  have h := wrapU_pos z
  simp [Lit.wf, IntKind.min, IntKind.max, IntKind.signed, IntKind.bits]
  omega
noncomputable abbrev wbF : FuncId := 6
noncomputable def wbL : Code × List Fr := loopOf Try.prog wbF 0
end Go.Proofs.Ytjediiajmnlonaa
