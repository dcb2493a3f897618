/-
  No cell of these rows narrows 'for every input' (looked for: loops, veiled, ifaces, maps, wideKeys, modest, calm, conditions, laid).
  DERIVED. THE GIVEN ROWS OF THIS SEAT. 7 by the template 'for every input the law returns true; each argument reads behind the call as it read before'; 0 by the template 'total and deterministic' (their statements: YtdjogfofedbohaaTotals.lean).
  GIVEN WITH THE SEED: the statements are not yours to turn. If you find one false, say at which input.
  Laid BY PROGRAM, IN A SANDBOX (cutbox-rows.mjs): the forced cells as the released guide's own fill.sh prints them over the translation 36caf21dbc9bc765… (all of the seat's roots in one cut). By AI agents, Wed Nov 11 2026. No macro, syntax, notation, axiom, sorry.
-/
import Derived.Test.YtdjogfofedbohaaChecked
import GoSem.Claim
import GoSem.ClaimJoined
import GoSem.ClaimMapViews
import Derived.JoinedTies
import Derived.KernelRfl
namespace Go.Proofs.Ytdjogfofedbohaa
/- THE CELL 'sum', in the pinned program and in every row, IS THE sha256 OF THE DUMP (.gsa) THAT YtdjogfofedbohaaProg.lean LOADS. Nothing in Lean hashes anything: it is a label: what it is worth is what the hold of that sum in a sandbox is worth. -/
noncomputable def Try.pinned : Pinned := { name := "ytdjogfofedbohaa", sum := "36caf21dbc9bc7654b8f88e1421ec0cb79c781196c91bca7a538717fa94163b3", checked := Try.checked }
namespace Rows
def none {H : Type} : Left H := { results := [], args := [] }

/-- 'revenantlaw04.CellExact': WHATEVER THE INPUT: true; the input reads as it did. -/
def cellExactSpec : ChangeSpec := { name := "cellExact", fn := fun _ => fun
  | [d] => { results := [.lit (.bool true)], args := [d] }
  | _ => none }
def cellExactRow : OpenClaim := { program := "ytdjogfofedbohaa", sum := "36caf21dbc9bc7654b8f88e1421ec0cb79c781196c91bca7a538717fa94163b3", func := "revenant/revenantlaw04.CellExact", spec := "cellExact", inPlace := ["maps.clone"], unfollowed := true, recurses := true, plainKeys := false, apart := false }
def CellExactSaid : Prop := cellExactRow.holds Try.pinned (OpenSpec.ofChange cellExactSpec)

/-- ITS FALSE NEIGHBOUR: 'it returns false'. Refute it at one input. -/
def cellExactWrong : ChangeSpec := { name := "cellExact", fn := fun _ => fun
  | [d] => { results := [.lit (.bool false)], args := [d] }
  | _ => none }
def CellExactWrongFalsely : Prop := cellExactRow.holds Try.pinned (OpenSpec.ofChange cellExactWrong)

/-- 'revenantlaw04.CellNil': WHATEVER THE INPUT: true; the input reads as it did. -/
def cellNilSpec : ChangeSpec := { name := "cellNil", fn := fun _ => fun
  | [d1, d2, d3] => { results := [.lit (.bool true)], args := [d1, d2, d3] }
  | _ => none }
def cellNilRow : OpenClaim := { program := "ytdjogfofedbohaa", sum := "36caf21dbc9bc7654b8f88e1421ec0cb79c781196c91bca7a538717fa94163b3", func := "revenant/revenantlaw04.CellNil", spec := "cellNil", inPlace := ["maps.clone"], unfollowed := true, recurses := true, plainKeys := false, apart := false }
def CellNilSaid : Prop := cellNilRow.holds Try.pinned (OpenSpec.ofChange cellNilSpec)

/-- ITS FALSE NEIGHBOUR: 'it returns false'. Refute it at one input. -/
def cellNilWrong : ChangeSpec := { name := "cellNil", fn := fun _ => fun
  | [d1, d2, d3] => { results := [.lit (.bool false)], args := [d1, d2, d3] }
  | _ => none }
def CellNilWrongFalsely : Prop := cellNilRow.holds Try.pinned (OpenSpec.ofChange cellNilWrong)

/-- 'revenantlaw04.CellApart': WHATEVER THE INPUT: true; the input reads as it did. -/
def cellApartSpec : ChangeSpec := { name := "cellApart", fn := fun _ => fun
  | [d1, d2, d3] => { results := [.lit (.bool true)], args := [d1, d2, d3] }
  | _ => none }
def cellApartRow : OpenClaim := { program := "ytdjogfofedbohaa", sum := "36caf21dbc9bc7654b8f88e1421ec0cb79c781196c91bca7a538717fa94163b3", func := "revenant/revenantlaw04.CellApart", spec := "cellApart", inPlace := ["maps.clone"], unfollowed := true, recurses := true, plainKeys := false, apart := false }
def CellApartSaid : Prop := cellApartRow.holds Try.pinned (OpenSpec.ofChange cellApartSpec)

/-- ITS FALSE NEIGHBOUR: 'it returns false'. Refute it at one input. -/
def cellApartWrong : ChangeSpec := { name := "cellApart", fn := fun _ => fun
  | [d1, d2, d3] => { results := [.lit (.bool false)], args := [d1, d2, d3] }
  | _ => none }
def CellApartWrongFalsely : Prop := cellApartRow.holds Try.pinned (OpenSpec.ofChange cellApartWrong)

/-- 'revenantlaw07.WorldExact': WHATEVER THE INPUT: true; the input reads as it did. -/
def worldExactSpec : ChangeSpec := { name := "worldExact", fn := fun _ => fun
  | [d1, d2] => { results := [.lit (.bool true)], args := [d1, d2] }
  | _ => none }
def worldExactRow : OpenClaim := { program := "ytdjogfofedbohaa", sum := "36caf21dbc9bc7654b8f88e1421ec0cb79c781196c91bca7a538717fa94163b3", func := "revenant/revenantlaw07.WorldExact", spec := "worldExact", inPlace := ["maps.clone"], unfollowed := true, recurses := true, plainKeys := false, apart := false }
def WorldExactSaid : Prop := worldExactRow.holds Try.pinned (OpenSpec.ofChange worldExactSpec)

/-- ITS FALSE NEIGHBOUR: 'it returns false'. Refute it at one input. -/
def worldExactWrong : ChangeSpec := { name := "worldExact", fn := fun _ => fun
  | [d1, d2] => { results := [.lit (.bool false)], args := [d1, d2] }
  | _ => none }
def WorldExactWrongFalsely : Prop := worldExactRow.holds Try.pinned (OpenSpec.ofChange worldExactWrong)

/-- 'revenantlaw15.SeekAlone': WHATEVER THE INPUT: true; the input reads as it did. -/
def seekAloneSpec : ChangeSpec := { name := "seekAlone", fn := fun _ => fun
  | [d1, d2] => { results := [.lit (.bool true)], args := [d1, d2] }
  | _ => none }
def seekAloneRow : OpenClaim := { program := "ytdjogfofedbohaa", sum := "36caf21dbc9bc7654b8f88e1421ec0cb79c781196c91bca7a538717fa94163b3", func := "revenant/revenantlaw15.SeekAlone", spec := "seekAlone", unfollowed := true, recurses := true, plainKeys := false, apart := false }
def SeekAloneSaid : Prop := seekAloneRow.holds Try.pinned (OpenSpec.ofChange seekAloneSpec)

/-- ITS FALSE NEIGHBOUR: 'it returns false'. Refute it at one input. -/
def seekAloneWrong : ChangeSpec := { name := "seekAlone", fn := fun _ => fun
  | [d1, d2] => { results := [.lit (.bool false)], args := [d1, d2] }
  | _ => none }
def SeekAloneWrongFalsely : Prop := seekAloneRow.holds Try.pinned (OpenSpec.ofChange seekAloneWrong)

/-- 'revenantlaw15.SeekFrozen': WHATEVER THE INPUT: true; the input reads as it did. -/
def seekFrozenSpec : ChangeSpec := { name := "seekFrozen", fn := fun _ => fun
  | [d1, d2, d3, d4, d5] => { results := [.lit (.bool true)], args := [d1, d2, d3, d4, d5] }
  | _ => none }
def seekFrozenRow : OpenClaim := { program := "ytdjogfofedbohaa", sum := "36caf21dbc9bc7654b8f88e1421ec0cb79c781196c91bca7a538717fa94163b3", func := "revenant/revenantlaw15.SeekFrozen", spec := "seekFrozen", unfollowed := true, recurses := true, plainKeys := false, apart := false }
def SeekFrozenSaid : Prop := seekFrozenRow.holds Try.pinned (OpenSpec.ofChange seekFrozenSpec)

/-- ITS FALSE NEIGHBOUR: 'it returns false'. Refute it at one input. -/
def seekFrozenWrong : ChangeSpec := { name := "seekFrozen", fn := fun _ => fun
  | [d1, d2, d3, d4, d5] => { results := [.lit (.bool false)], args := [d1, d2, d3, d4, d5] }
  | _ => none }
def SeekFrozenWrongFalsely : Prop := seekFrozenRow.holds Try.pinned (OpenSpec.ofChange seekFrozenWrong)

/-- 'revenantlaw18.TowerShort': WHATEVER THE INPUT: true; the input reads as it did. -/
def towerShortSpec : ChangeSpec := { name := "towerShort", fn := fun _ => fun
  | [d1, d2, d3] => { results := [.lit (.bool true)], args := [d1, d2, d3] }
  | _ => none }
def towerShortRow : OpenClaim := { program := "ytdjogfofedbohaa", sum := "36caf21dbc9bc7654b8f88e1421ec0cb79c781196c91bca7a538717fa94163b3", func := "revenant/revenantlaw18.TowerShort", spec := "towerShort", unfollowed := true, recurses := true, plainKeys := false, apart := false }
def TowerShortSaid : Prop := towerShortRow.holds Try.pinned (OpenSpec.ofChange towerShortSpec)

/-- ITS FALSE NEIGHBOUR: 'it returns false'. Refute it at one input. -/
def towerShortWrong : ChangeSpec := { name := "towerShort", fn := fun _ => fun
  | [d1, d2, d3] => { results := [.lit (.bool false)], args := [d1, d2, d3] }
  | _ => none }
def TowerShortWrongFalsely : Prop := towerShortRow.holds Try.pinned (OpenSpec.ofChange towerShortWrong)

/- THE SECOND FORM. 'bulk': how many values and letters a reading holds, each counted each time it is reached (what is shared counts as often as it is met; a slice's spare places count too). A statement '..UptoSaid' is the law's where the arguments, and the package variables that the reading takes, are together of bulk at most 1048576: NARROWER than '..Said'. Prove '..Said' where nothing that the law and all that it calls make is longer than what came in: it says more and counts as full. Else prove '..UptoSaid'. A law counts once. -/
mutual
def uptoBulk {H : Type} : DataW H → Nat
  | .lit (.string bytes) => bytes.length + 1
  | .lit _ => 1
  | .nil => 1
  | .ptr d => uptoBulk d + 1
  | .slice elems spare => uptoBulkAll elems + uptoBulkAll spare + 1
  | .agg parts => uptoBulkAll parts + 1
  | .iface _ d => uptoBulk d + 1
  | .map entries => uptoBulkEntries entries + 1
  | .held _ => 1
def uptoBulkAll {H : Type} : List (DataW H) → Nat
  | [] => 0
  | d :: r => uptoBulk d + uptoBulkAll r
def uptoBulkEntries {H : Type} : List (Lit × DataW H) → Nat
  | [] => 0
  | x :: r => uptoBulkEntry x + uptoBulkEntries r
def uptoBulkEntry {H : Type} : Lit × DataW H → Nat
  | (.string bytes, d) => bytes.length + uptoBulk d + 1
  | (_, d) => uptoBulk d + 1
 end
def uptoSmall : (H : Type) → List (DataW H) → Bool := fun _ ds => decide (uptoBulkAll ds ≤ 1048576)
def OpenSpec.upto (s : _root_.Go.ChangeSpec) : _root_.Go.OpenSpec := { _root_.Go.OpenSpec.ofChange s with cond := some uptoSmall }

/-- 'revenantlaw04.CellExact', WHERE WHAT IT READS IS OF BULK AT MOST 1048576: true; the input reads as it did. -/
def cellExactUptoRow : OpenClaim := { program := "ytdjogfofedbohaa", sum := "36caf21dbc9bc7654b8f88e1421ec0cb79c781196c91bca7a538717fa94163b3", func := "revenant/revenantlaw04.CellExact", spec := "cellExact", inPlace := ["maps.clone"], unfollowed := true, recurses := true, plainKeys := false, apart := false, narrowed := true }
def CellExactUptoSaid : Prop := cellExactUptoRow.holds Try.pinned (OpenSpec.upto cellExactSpec)

/-- 'revenantlaw04.CellNil', WHERE WHAT IT READS IS OF BULK AT MOST 1048576: true; the input reads as it did. -/
def cellNilUptoRow : OpenClaim := { program := "ytdjogfofedbohaa", sum := "36caf21dbc9bc7654b8f88e1421ec0cb79c781196c91bca7a538717fa94163b3", func := "revenant/revenantlaw04.CellNil", spec := "cellNil", inPlace := ["maps.clone"], unfollowed := true, recurses := true, plainKeys := false, apart := false, narrowed := true }
def CellNilUptoSaid : Prop := cellNilUptoRow.holds Try.pinned (OpenSpec.upto cellNilSpec)

/-- 'revenantlaw04.CellApart', WHERE WHAT IT READS IS OF BULK AT MOST 1048576: true; the input reads as it did. -/
def cellApartUptoRow : OpenClaim := { program := "ytdjogfofedbohaa", sum := "36caf21dbc9bc7654b8f88e1421ec0cb79c781196c91bca7a538717fa94163b3", func := "revenant/revenantlaw04.CellApart", spec := "cellApart", inPlace := ["maps.clone"], unfollowed := true, recurses := true, plainKeys := false, apart := false, narrowed := true }
def CellApartUptoSaid : Prop := cellApartUptoRow.holds Try.pinned (OpenSpec.upto cellApartSpec)

/-- 'revenantlaw07.WorldExact', WHERE WHAT IT READS IS OF BULK AT MOST 1048576: true; the input reads as it did. -/
def worldExactUptoRow : OpenClaim := { program := "ytdjogfofedbohaa", sum := "36caf21dbc9bc7654b8f88e1421ec0cb79c781196c91bca7a538717fa94163b3", func := "revenant/revenantlaw07.WorldExact", spec := "worldExact", inPlace := ["maps.clone"], unfollowed := true, recurses := true, plainKeys := false, apart := false, narrowed := true }
def WorldExactUptoSaid : Prop := worldExactUptoRow.holds Try.pinned (OpenSpec.upto worldExactSpec)

/-- 'revenantlaw15.SeekAlone', WHERE WHAT IT READS IS OF BULK AT MOST 1048576: true; the input reads as it did. -/
def seekAloneUptoRow : OpenClaim := { program := "ytdjogfofedbohaa", sum := "36caf21dbc9bc7654b8f88e1421ec0cb79c781196c91bca7a538717fa94163b3", func := "revenant/revenantlaw15.SeekAlone", spec := "seekAlone", unfollowed := true, recurses := true, plainKeys := false, apart := false, narrowed := true }
def SeekAloneUptoSaid : Prop := seekAloneUptoRow.holds Try.pinned (OpenSpec.upto seekAloneSpec)

/-- 'revenantlaw15.SeekFrozen', WHERE WHAT IT READS IS OF BULK AT MOST 1048576: true; the input reads as it did. -/
def seekFrozenUptoRow : OpenClaim := { program := "ytdjogfofedbohaa", sum := "36caf21dbc9bc7654b8f88e1421ec0cb79c781196c91bca7a538717fa94163b3", func := "revenant/revenantlaw15.SeekFrozen", spec := "seekFrozen", unfollowed := true, recurses := true, plainKeys := false, apart := false, narrowed := true }
def SeekFrozenUptoSaid : Prop := seekFrozenUptoRow.holds Try.pinned (OpenSpec.upto seekFrozenSpec)

/-- 'revenantlaw18.TowerShort', WHERE WHAT IT READS IS OF BULK AT MOST 1048576: true; the input reads as it did. -/
def towerShortUptoRow : OpenClaim := { program := "ytdjogfofedbohaa", sum := "36caf21dbc9bc7654b8f88e1421ec0cb79c781196c91bca7a538717fa94163b3", func := "revenant/revenantlaw18.TowerShort", spec := "towerShort", unfollowed := true, recurses := true, plainKeys := false, apart := false, narrowed := true }
def TowerShortUptoSaid : Prop := towerShortUptoRow.holds Try.pinned (OpenSpec.upto towerShortSpec)

end Rows
end Go.Proofs.Ytdjogfofedbohaa
