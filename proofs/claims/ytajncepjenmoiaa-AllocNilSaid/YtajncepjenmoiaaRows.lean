/-
  No cell of these rows narrows 'for every input' (looked for: loops, veiled, ifaces, maps, wideKeys, modest, calm, conditions, laid).
  DERIVED. THE GIVEN ROWS OF THIS SEAT. 4 by the template 'for every input the law returns true; each argument reads behind the call as it read before'; 0 by the template 'total and deterministic' (their statements: YtajncepjenmoiaaTotals.lean).
  GIVEN WITH THE SEED: the statements are not yours to turn. If you find one false, say at which input.
  Laid BY PROGRAM, IN A SANDBOX (cutbox-rows.mjs): the forced cells as the released guide's own fill.sh prints them over the translation c598f7128e2efb14… (all of the seat's roots in one cut). By AI agents, Wed Nov 11 2026. No macro, syntax, notation, axiom, sorry.
-/
import Derived.Test.YtajncepjenmoiaaChecked
import GoSem.Claim
import GoSem.ClaimJoined
import GoSem.ClaimMapViews
import Derived.JoinedTies
import Derived.KernelRfl
namespace Go.Proofs.Ytajncepjenmoiaa
/- THE CELL 'sum', in the pinned program and in every row, IS THE sha256 OF THE DUMP (.gsa) THAT YtajncepjenmoiaaProg.lean LOADS. Nothing in Lean hashes anything: it is a label: what it is worth is what the hold of that sum in a sandbox is worth. -/
noncomputable def Try.pinned : Pinned := { name := "ytajncepjenmoiaa", sum := "c598f7128e2efb14b9f32bc61503300a9d571f6d00d0dc244a46863f4f069965", checked := Try.checked }
namespace Rows
def none {H : Type} : Left H := { results := [], args := [] }

/-- 'revenantlaw15.SeekNil': WHATEVER THE INPUT: true; the input reads as it did. -/
def seekNilSpec : ChangeSpec := { name := "seekNil", fn := fun _ => fun
  | [d1, d2, d3] => { results := [.lit (.bool true)], args := [d1, d2, d3] }
  | _ => none }
def seekNilRow : OpenClaim := { program := "ytajncepjenmoiaa", sum := "c598f7128e2efb14b9f32bc61503300a9d571f6d00d0dc244a46863f4f069965", func := "revenant/revenantlaw15.SeekNil", spec := "seekNil", unfollowed := true, recurses := true, plainKeys := false, apart := false }
def SeekNilSaid : Prop := seekNilRow.holds Try.pinned (OpenSpec.ofChange seekNilSpec)

/-- ITS FALSE NEIGHBOUR: 'it returns false'. Refute it at one input. -/
def seekNilWrong : ChangeSpec := { name := "seekNil", fn := fun _ => fun
  | [d1, d2, d3] => { results := [.lit (.bool false)], args := [d1, d2, d3] }
  | _ => none }
def SeekNilWrongFalsely : Prop := seekNilRow.holds Try.pinned (OpenSpec.ofChange seekNilWrong)

/-- 'revenantlaw04.CellNil': WHATEVER THE INPUT: true; the input reads as it did. -/
def cellNilSpec : ChangeSpec := { name := "cellNil", fn := fun _ => fun
  | [d1, d2, d3] => { results := [.lit (.bool true)], args := [d1, d2, d3] }
  | _ => none }
def cellNilRow : OpenClaim := { program := "ytajncepjenmoiaa", sum := "c598f7128e2efb14b9f32bc61503300a9d571f6d00d0dc244a46863f4f069965", func := "revenant/revenantlaw04.CellNil", spec := "cellNil", inPlace := ["maps.clone"], unfollowed := true, recurses := true, plainKeys := false, apart := false }
def CellNilSaid : Prop := cellNilRow.holds Try.pinned (OpenSpec.ofChange cellNilSpec)

/-- ITS FALSE NEIGHBOUR: 'it returns false'. Refute it at one input. -/
def cellNilWrong : ChangeSpec := { name := "cellNil", fn := fun _ => fun
  | [d1, d2, d3] => { results := [.lit (.bool false)], args := [d1, d2, d3] }
  | _ => none }
def CellNilWrongFalsely : Prop := cellNilRow.holds Try.pinned (OpenSpec.ofChange cellNilWrong)

/-- 'revenantlaw18.TowerNil': WHATEVER THE INPUT: true; the input reads as it did. -/
def towerNilSpec : ChangeSpec := { name := "towerNil", fn := fun _ => fun
  | [d1, d2, d3] => { results := [.lit (.bool true)], args := [d1, d2, d3] }
  | _ => none }
def towerNilRow : OpenClaim := { program := "ytajncepjenmoiaa", sum := "c598f7128e2efb14b9f32bc61503300a9d571f6d00d0dc244a46863f4f069965", func := "revenant/revenantlaw18.TowerNil", spec := "towerNil", unfollowed := true, recurses := true, plainKeys := false, apart := false }
def TowerNilSaid : Prop := towerNilRow.holds Try.pinned (OpenSpec.ofChange towerNilSpec)

/-- ITS FALSE NEIGHBOUR: 'it returns false'. Refute it at one input. -/
def towerNilWrong : ChangeSpec := { name := "towerNil", fn := fun _ => fun
  | [d1, d2, d3] => { results := [.lit (.bool false)], args := [d1, d2, d3] }
  | _ => none }
def TowerNilWrongFalsely : Prop := towerNilRow.holds Try.pinned (OpenSpec.ofChange towerNilWrong)

/-- 'revenantlaw14.AllocNil': WHATEVER THE INPUT: true; the input reads as it did. -/
def allocNilSpec : ChangeSpec := { name := "allocNil", fn := fun _ => fun
  | [d1, d2] => { results := [.lit (.bool true)], args := [d1, d2] }
  | _ => none }
def allocNilRow : OpenClaim := { program := "ytajncepjenmoiaa", sum := "c598f7128e2efb14b9f32bc61503300a9d571f6d00d0dc244a46863f4f069965", func := "revenant/revenantlaw14.AllocNil", spec := "allocNil", unfollowed := true, recurses := true, plainKeys := false, apart := false }
def AllocNilSaid : Prop := allocNilRow.holds Try.pinned (OpenSpec.ofChange allocNilSpec)

/-- ITS FALSE NEIGHBOUR: 'it returns false'. Refute it at one input. -/
def allocNilWrong : ChangeSpec := { name := "allocNil", fn := fun _ => fun
  | [d1, d2] => { results := [.lit (.bool false)], args := [d1, d2] }
  | _ => none }
def AllocNilWrongFalsely : Prop := allocNilRow.holds Try.pinned (OpenSpec.ofChange allocNilWrong)

/- THE SECOND FORM. 'bulk': how many values and letters a reading holds, each counted each time it is reached (what is shared counts as often as it is met; a slice's spare places count too). A statement '..UptoSaid' is the law's where the arguments, and the package variables that the reading takes, are together of bulk at most 1048576: NARROWER than '..Said'. Prove '..Said' where nothing that the law and all that it calls make is longer than what came in: it says more and counts as full. Else prove '..UptoSaid'. A law counts once. -/
mutual
def uptoBulk {H : Type} : DataW H → Nat
  | .lit (.string bytes) => bytes.length + 1
  | .lit _ => 1
  | .nil => 1
  | .ptr d => uptoBulk d + 1
  | .slice elems spare => uptoBulkAll elems + uptoBulkAll spare + 1
  | .agg parts => uptoBulkAll parts + 1
  | .iface _ d => uptoBulk d + 1
  | .map entries => uptoBulkEntries entries + 1
  | .held _ => 1
def uptoBulkAll {H : Type} : List (DataW H) → Nat
  | [] => 0
  | d :: r => uptoBulk d + uptoBulkAll r
def uptoBulkEntries {H : Type} : List (Lit × DataW H) → Nat
  | [] => 0
  | x :: r => uptoBulkEntry x + uptoBulkEntries r
def uptoBulkEntry {H : Type} : Lit × DataW H → Nat
  | (.string bytes, d) => bytes.length + uptoBulk d + 1
  | (_, d) => uptoBulk d + 1
 end
def uptoSmall : (H : Type) → List (DataW H) → Bool := fun _ ds => decide (uptoBulkAll ds ≤ 1048576)
def OpenSpec.upto (s : _root_.Go.ChangeSpec) : _root_.Go.OpenSpec := { _root_.Go.OpenSpec.ofChange s with cond := some uptoSmall }

/-- 'revenantlaw15.SeekNil', WHERE WHAT IT READS IS OF BULK AT MOST 1048576: true; the input reads as it did. -/
def seekNilUptoRow : OpenClaim := { program := "ytajncepjenmoiaa", sum := "c598f7128e2efb14b9f32bc61503300a9d571f6d00d0dc244a46863f4f069965", func := "revenant/revenantlaw15.SeekNil", spec := "seekNil", unfollowed := true, recurses := true, plainKeys := false, apart := false, narrowed := true }
def SeekNilUptoSaid : Prop := seekNilUptoRow.holds Try.pinned (OpenSpec.upto seekNilSpec)

/-- 'revenantlaw04.CellNil', WHERE WHAT IT READS IS OF BULK AT MOST 1048576: true; the input reads as it did. -/
def cellNilUptoRow : OpenClaim := { program := "ytajncepjenmoiaa", sum := "c598f7128e2efb14b9f32bc61503300a9d571f6d00d0dc244a46863f4f069965", func := "revenant/revenantlaw04.CellNil", spec := "cellNil", inPlace := ["maps.clone"], unfollowed := true, recurses := true, plainKeys := false, apart := false, narrowed := true }
def CellNilUptoSaid : Prop := cellNilUptoRow.holds Try.pinned (OpenSpec.upto cellNilSpec)

/-- 'revenantlaw18.TowerNil', WHERE WHAT IT READS IS OF BULK AT MOST 1048576: true; the input reads as it did. -/
def towerNilUptoRow : OpenClaim := { program := "ytajncepjenmoiaa", sum := "c598f7128e2efb14b9f32bc61503300a9d571f6d00d0dc244a46863f4f069965", func := "revenant/revenantlaw18.TowerNil", spec := "towerNil", unfollowed := true, recurses := true, plainKeys := false, apart := false, narrowed := true }
def TowerNilUptoSaid : Prop := towerNilUptoRow.holds Try.pinned (OpenSpec.upto towerNilSpec)

/-- 'revenantlaw14.AllocNil', WHERE WHAT IT READS IS OF BULK AT MOST 1048576: true; the input reads as it did. -/
def allocNilUptoRow : OpenClaim := { program := "ytajncepjenmoiaa", sum := "c598f7128e2efb14b9f32bc61503300a9d571f6d00d0dc244a46863f4f069965", func := "revenant/revenantlaw14.AllocNil", spec := "allocNil", unfollowed := true, recurses := true, plainKeys := false, apart := false, narrowed := true }
def AllocNilUptoSaid : Prop := allocNilUptoRow.holds Try.pinned (OpenSpec.upto allocNilSpec)

end Rows
end Go.Proofs.Ytajncepjenmoiaa
