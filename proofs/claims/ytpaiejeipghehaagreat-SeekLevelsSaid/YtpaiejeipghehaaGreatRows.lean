/-
  No cell of these rows narrows 'for every input' (looked for: loops, veiled, ifaces, maps, wideKeys, modest, calm, conditions, laid).
  DERIVED. THE GIVEN ROWS OF THIS SEAT. 3 by the template 'for every input the law returns true; each argument reads behind the call as it read before'; 0 by the template 'total and deterministic' (their statements: YtpaiejeipghehaaGreatTotals.lean).
  GIVEN WITH THE SEED: the statements are not yours to turn. If you find one false, say at which input.
  Laid BY PROGRAM, IN A SANDBOX (cutbox-rows.mjs): the forced cells as the released guide's own fill.sh prints them over the translation 6b62a6e5ddedc8a5… (all of the seat's roots in one cut). By AI agents, Wed Nov 11 2026. No macro, syntax, notation, axiom, sorry.
-/
import Derived.Test.YtpaiejeipghehaaGreatChecked
import GoSem.Claim
import GoSem.ClaimJoined
import GoSem.ClaimMapViews
import Derived.JoinedTies
import Derived.KernelRfl
namespace Go.Proofs.YtpaiejeipghehaaGreat
/- THE CELL 'sum', in the pinned program and in every row, IS THE sha256 OF THE DUMP (.gsa) THAT YtpaiejeipghehaaGreatProg.lean LOADS. Nothing in Lean hashes anything: it is a label: what it is worth is what the hold of that sum in a sandbox is worth. -/
noncomputable def Tryz.pinned : Pinned := { name := "ytpaiejeipghehaagreat", sum := "6b62a6e5ddedc8a51923223bc76daa23e904376a58e94d66dfe175b355093ddc", checked := Tryz.checked }
namespace Rows
def none {H : Type} : Left H := { results := [], args := [] }

/-- 'revenantlaw15.SeekLevels': WHATEVER THE INPUT: true; the input reads as it did. -/
def seekLevelsSpec : ChangeSpec := { name := "seekLevels", fn := fun _ => fun
  | [d1, d2, d3, d4] => { results := [.lit (.bool true)], args := [d1, d2, d3, d4] }
  | _ => none }
def seekLevelsRow : OpenClaim := { program := "ytpaiejeipghehaagreat", sum := "6b62a6e5ddedc8a51923223bc76daa23e904376a58e94d66dfe175b355093ddc", func := "revenant/revenantlaw15.SeekLevels", spec := "seekLevels", inPlace := ["maps.clone"], unfollowed := true, recurses := true, plainKeys := false, apart := false }
def SeekLevelsSaid : Prop := seekLevelsRow.holds Tryz.pinned (OpenSpec.ofChange seekLevelsSpec)

/-- ITS FALSE NEIGHBOUR: 'it returns false'. Refute it at one input. -/
def seekLevelsWrong : ChangeSpec := { name := "seekLevels", fn := fun _ => fun
  | [d1, d2, d3, d4] => { results := [.lit (.bool false)], args := [d1, d2, d3, d4] }
  | _ => none }
def SeekLevelsWrongFalsely : Prop := seekLevelsRow.holds Tryz.pinned (OpenSpec.ofChange seekLevelsWrong)

/-- 'revenantlaw15.SeekExact': WHATEVER THE INPUT: true; the input reads as it did. -/
def seekExactSpec : ChangeSpec := { name := "seekExact", fn := fun _ => fun
  | [d1, d2, d3, d4, d5] => { results := [.lit (.bool true)], args := [d1, d2, d3, d4, d5] }
  | _ => none }
def seekExactRow : OpenClaim := { program := "ytpaiejeipghehaagreat", sum := "6b62a6e5ddedc8a51923223bc76daa23e904376a58e94d66dfe175b355093ddc", func := "revenant/revenantlaw15.SeekExact", spec := "seekExact", inPlace := ["maps.clone"], unfollowed := true, recurses := true, plainKeys := false, apart := false }
def SeekExactSaid : Prop := seekExactRow.holds Tryz.pinned (OpenSpec.ofChange seekExactSpec)

/-- ITS FALSE NEIGHBOUR: 'it returns false'. Refute it at one input. -/
def seekExactWrong : ChangeSpec := { name := "seekExact", fn := fun _ => fun
  | [d1, d2, d3, d4, d5] => { results := [.lit (.bool false)], args := [d1, d2, d3, d4, d5] }
  | _ => none }
def SeekExactWrongFalsely : Prop := seekExactRow.holds Tryz.pinned (OpenSpec.ofChange seekExactWrong)

/-- 'revenantlaw18.TowerExact': WHATEVER THE INPUT: true; the input reads as it did. -/
def towerExactSpec : ChangeSpec := { name := "towerExact", fn := fun _ => fun
  | [d1, d2, d3, d4] => { results := [.lit (.bool true)], args := [d1, d2, d3, d4] }
  | _ => none }
def towerExactRow : OpenClaim := { program := "ytpaiejeipghehaagreat", sum := "6b62a6e5ddedc8a51923223bc76daa23e904376a58e94d66dfe175b355093ddc", func := "revenant/revenantlaw18.TowerExact", spec := "towerExact", inPlace := ["maps.clone"], unfollowed := true, recurses := true, plainKeys := false, apart := false }
def TowerExactSaid : Prop := towerExactRow.holds Tryz.pinned (OpenSpec.ofChange towerExactSpec)

/-- ITS FALSE NEIGHBOUR: 'it returns false'. Refute it at one input. -/
def towerExactWrong : ChangeSpec := { name := "towerExact", fn := fun _ => fun
  | [d1, d2, d3, d4] => { results := [.lit (.bool false)], args := [d1, d2, d3, d4] }
  | _ => none }
def TowerExactWrongFalsely : Prop := towerExactRow.holds Tryz.pinned (OpenSpec.ofChange towerExactWrong)

/- THE SECOND FORM. 'bulk': how many values and letters a reading holds, each counted each time it is reached (what is shared counts as often as it is met; a slice's spare places count too). A statement '..UptoSaid' is the law's where the arguments, and the package variables that the reading takes, are together of bulk at most 1048576: NARROWER than '..Said'. Prove '..Said' where nothing that the law and all that it calls make is longer than what came in: it says more and counts as full. Else prove '..UptoSaid'. A law counts once. -/
mutual
def uptoBulk {H : Type} : DataW H → Nat
  | .lit (.string bytes) => bytes.length + 1
  | .lit _ => 1
  | .nil => 1
  | .ptr d => uptoBulk d + 1
  | .slice elems spare => uptoBulkAll elems + uptoBulkAll spare + 1
  | .agg parts => uptoBulkAll parts + 1
  | .iface _ d => uptoBulk d + 1
  | .map entries => uptoBulkEntries entries + 1
  | .held _ => 1
def uptoBulkAll {H : Type} : List (DataW H) → Nat
  | [] => 0
  | d :: r => uptoBulk d + uptoBulkAll r
def uptoBulkEntries {H : Type} : List (Lit × DataW H) → Nat
  | [] => 0
  | x :: r => uptoBulkEntry x + uptoBulkEntries r
def uptoBulkEntry {H : Type} : Lit × DataW H → Nat
  | (.string bytes, d) => bytes.length + uptoBulk d + 1
  | (_, d) => uptoBulk d + 1
 end
def uptoSmall : (H : Type) → List (DataW H) → Bool := fun _ ds => decide (uptoBulkAll ds ≤ 1048576)
def OpenSpec.upto (s : _root_.Go.ChangeSpec) : _root_.Go.OpenSpec := { _root_.Go.OpenSpec.ofChange s with cond := some uptoSmall }

/-- 'revenantlaw15.SeekLevels', WHERE WHAT IT READS IS OF BULK AT MOST 1048576: true; the input reads as it did. -/
def seekLevelsUptoRow : OpenClaim := { program := "ytpaiejeipghehaagreat", sum := "6b62a6e5ddedc8a51923223bc76daa23e904376a58e94d66dfe175b355093ddc", func := "revenant/revenantlaw15.SeekLevels", spec := "seekLevels", inPlace := ["maps.clone"], unfollowed := true, recurses := true, plainKeys := false, apart := false, narrowed := true }
def SeekLevelsUptoSaid : Prop := seekLevelsUptoRow.holds Tryz.pinned (OpenSpec.upto seekLevelsSpec)

/-- 'revenantlaw15.SeekExact', WHERE WHAT IT READS IS OF BULK AT MOST 1048576: true; the input reads as it did. -/
def seekExactUptoRow : OpenClaim := { program := "ytpaiejeipghehaagreat", sum := "6b62a6e5ddedc8a51923223bc76daa23e904376a58e94d66dfe175b355093ddc", func := "revenant/revenantlaw15.SeekExact", spec := "seekExact", inPlace := ["maps.clone"], unfollowed := true, recurses := true, plainKeys := false, apart := false, narrowed := true }
def SeekExactUptoSaid : Prop := seekExactUptoRow.holds Tryz.pinned (OpenSpec.upto seekExactSpec)

/-- 'revenantlaw18.TowerExact', WHERE WHAT IT READS IS OF BULK AT MOST 1048576: true; the input reads as it did. -/
def towerExactUptoRow : OpenClaim := { program := "ytpaiejeipghehaagreat", sum := "6b62a6e5ddedc8a51923223bc76daa23e904376a58e94d66dfe175b355093ddc", func := "revenant/revenantlaw18.TowerExact", spec := "towerExact", inPlace := ["maps.clone"], unfollowed := true, recurses := true, plainKeys := false, apart := false, narrowed := true }
def TowerExactUptoSaid : Prop := towerExactUptoRow.holds Tryz.pinned (OpenSpec.upto towerExactSpec)

end Rows
end Go.Proofs.YtpaiejeipghehaaGreat
