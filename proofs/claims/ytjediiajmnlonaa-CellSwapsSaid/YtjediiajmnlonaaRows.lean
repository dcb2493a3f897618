/-
  No cell of these rows narrows 'for every input' (looked for: loops, veiled, ifaces, maps, wideKeys, modest, calm, conditions, laid).
  DERIVED. THE GIVEN ROWS OF THIS SEAT. 12 by the template 'for every input the law returns true; each argument reads behind the call as it read before'; 0 by the template 'total and deterministic' (their statements: YtjediiajmnlonaaTotals.lean).
  GIVEN WITH THE SEED: the statements are not yours to turn. If you find one false, say at which input.
  Laid BY PROGRAM, IN A SANDBOX (cutbox-rows.mjs): the forced cells as the released guide's own fill.sh prints them over the translation d4490f2d22eb080f… (all of the seat's roots in one cut). By AI agents, Wed Nov 11 2026. No macro, syntax, notation, axiom, sorry.
-/
import Derived.Test.YtjediiajmnlonaaChecked
import GoSem.Claim
import GoSem.ClaimJoined
import GoSem.ClaimMapViews
import Derived.JoinedTies
import Derived.KernelRfl
namespace Go.Proofs.Ytjediiajmnlonaa
/- THE CELL 'sum', in the pinned program and in every row, IS THE sha256 OF THE DUMP (.gsa) THAT YtjediiajmnlonaaProg.lean LOADS. Nothing in Lean hashes anything: it is a label: what it is worth is what the hold of that sum in a sandbox is worth. -/
noncomputable def Try.pinned : Pinned := { name := "ytjediiajmnlonaa", sum := "d4490f2d22eb080f6552b80cd3c1025acbcf713259323c74108f0ef414b6ddfa", checked := Try.checked }
namespace Rows
def none {H : Type} : Left H := { results := [], args := [] }

/-- 'revenantlaw11.QueueExact': WHATEVER THE INPUT: true; the input reads as it did. -/
def queueExactSpec : ChangeSpec := { name := "queueExact", fn := fun _ => fun
  | [d1, d2] => { results := [.lit (.bool true)], args := [d1, d2] }
  | _ => none }
def queueExactRow : OpenClaim := { program := "ytjediiajmnlonaa", sum := "d4490f2d22eb080f6552b80cd3c1025acbcf713259323c74108f0ef414b6ddfa", func := "revenant/revenantlaw11.QueueExact", spec := "queueExact", unfollowed := true, recurses := true, plainKeys := false, apart := false }
def QueueExactSaid : Prop := queueExactRow.holds Try.pinned (OpenSpec.ofChange queueExactSpec)

/-- ITS FALSE NEIGHBOUR: 'it returns false'. Refute it at one input. -/
def queueExactWrong : ChangeSpec := { name := "queueExact", fn := fun _ => fun
  | [d1, d2] => { results := [.lit (.bool false)], args := [d1, d2] }
  | _ => none }
def QueueExactWrongFalsely : Prop := queueExactRow.holds Try.pinned (OpenSpec.ofChange queueExactWrong)

/-- 'revenantlaw11.QueueOrder': WHATEVER THE INPUT: true; the input reads as it did. -/
def queueOrderSpec : ChangeSpec := { name := "queueOrder", fn := fun _ => fun
  | [d1, d2] => { results := [.lit (.bool true)], args := [d1, d2] }
  | _ => none }
def queueOrderRow : OpenClaim := { program := "ytjediiajmnlonaa", sum := "d4490f2d22eb080f6552b80cd3c1025acbcf713259323c74108f0ef414b6ddfa", func := "revenant/revenantlaw11.QueueOrder", spec := "queueOrder", unfollowed := true, recurses := true, plainKeys := false, apart := false }
def QueueOrderSaid : Prop := queueOrderRow.holds Try.pinned (OpenSpec.ofChange queueOrderSpec)

/-- ITS FALSE NEIGHBOUR: 'it returns false'. Refute it at one input. -/
def queueOrderWrong : ChangeSpec := { name := "queueOrder", fn := fun _ => fun
  | [d1, d2] => { results := [.lit (.bool false)], args := [d1, d2] }
  | _ => none }
def QueueOrderWrongFalsely : Prop := queueOrderRow.holds Try.pinned (OpenSpec.ofChange queueOrderWrong)

/-- 'revenantlaw07.WorldNil': WHATEVER THE INPUT: true; the input reads as it did. -/
def worldNilSpec : ChangeSpec := { name := "worldNil", fn := fun _ => fun
  | [d1, d2] => { results := [.lit (.bool true)], args := [d1, d2] }
  | _ => none }
def worldNilRow : OpenClaim := { program := "ytjediiajmnlonaa", sum := "d4490f2d22eb080f6552b80cd3c1025acbcf713259323c74108f0ef414b6ddfa", func := "revenant/revenantlaw07.WorldNil", spec := "worldNil", inPlace := ["maps.clone"], unfollowed := true, recurses := true, plainKeys := false, apart := false }
def WorldNilSaid : Prop := worldNilRow.holds Try.pinned (OpenSpec.ofChange worldNilSpec)

/-- ITS FALSE NEIGHBOUR: 'it returns false'. Refute it at one input. -/
def worldNilWrong : ChangeSpec := { name := "worldNil", fn := fun _ => fun
  | [d1, d2] => { results := [.lit (.bool false)], args := [d1, d2] }
  | _ => none }
def WorldNilWrongFalsely : Prop := worldNilRow.holds Try.pinned (OpenSpec.ofChange worldNilWrong)

/-- 'revenantlaw07.WorldBlind': WHATEVER THE INPUT: true; the input reads as it did. -/
def worldBlindSpec : ChangeSpec := { name := "worldBlind", fn := fun _ => fun
  | [d1, d2] => { results := [.lit (.bool true)], args := [d1, d2] }
  | _ => none }
def worldBlindRow : OpenClaim := { program := "ytjediiajmnlonaa", sum := "d4490f2d22eb080f6552b80cd3c1025acbcf713259323c74108f0ef414b6ddfa", func := "revenant/revenantlaw07.WorldBlind", spec := "worldBlind", inPlace := ["maps.clone"], unfollowed := true, recurses := true, plainKeys := false, apart := false }
def WorldBlindSaid : Prop := worldBlindRow.holds Try.pinned (OpenSpec.ofChange worldBlindSpec)

/-- ITS FALSE NEIGHBOUR: 'it returns false'. Refute it at one input. -/
def worldBlindWrong : ChangeSpec := { name := "worldBlind", fn := fun _ => fun
  | [d1, d2] => { results := [.lit (.bool false)], args := [d1, d2] }
  | _ => none }
def WorldBlindWrongFalsely : Prop := worldBlindRow.holds Try.pinned (OpenSpec.ofChange worldBlindWrong)

/-- 'revenantlaw13.CoreEpochs': WHATEVER THE INPUT: true; the input reads as it did. -/
def coreEpochsSpec : ChangeSpec := { name := "coreEpochs", fn := fun _ => fun
  | [d] => { results := [.lit (.bool true)], args := [d] }
  | _ => none }
def coreEpochsRow : OpenClaim := { program := "ytjediiajmnlonaa", sum := "d4490f2d22eb080f6552b80cd3c1025acbcf713259323c74108f0ef414b6ddfa", func := "revenant/revenantlaw13.CoreEpochs", spec := "coreEpochs", unfollowed := true, recurses := true, plainKeys := false, apart := false }
def CoreEpochsSaid : Prop := coreEpochsRow.holds Try.pinned (OpenSpec.ofChange coreEpochsSpec)

/-- ITS FALSE NEIGHBOUR: 'it returns false'. Refute it at one input. -/
def coreEpochsWrong : ChangeSpec := { name := "coreEpochs", fn := fun _ => fun
  | [d] => { results := [.lit (.bool false)], args := [d] }
  | _ => none }
def CoreEpochsWrongFalsely : Prop := coreEpochsRow.holds Try.pinned (OpenSpec.ofChange coreEpochsWrong)

/-- 'revenantlaw13.CoreExact': WHATEVER THE INPUT: true; the input reads as it did. -/
def coreExactSpec : ChangeSpec := { name := "coreExact", fn := fun _ => fun
  | [d1, d2] => { results := [.lit (.bool true)], args := [d1, d2] }
  | _ => none }
def coreExactRow : OpenClaim := { program := "ytjediiajmnlonaa", sum := "d4490f2d22eb080f6552b80cd3c1025acbcf713259323c74108f0ef414b6ddfa", func := "revenant/revenantlaw13.CoreExact", spec := "coreExact", unfollowed := true, recurses := true, plainKeys := false, apart := false }
def CoreExactSaid : Prop := coreExactRow.holds Try.pinned (OpenSpec.ofChange coreExactSpec)

/-- ITS FALSE NEIGHBOUR: 'it returns false'. Refute it at one input. -/
def coreExactWrong : ChangeSpec := { name := "coreExact", fn := fun _ => fun
  | [d1, d2] => { results := [.lit (.bool false)], args := [d1, d2] }
  | _ => none }
def CoreExactWrongFalsely : Prop := coreExactRow.holds Try.pinned (OpenSpec.ofChange coreExactWrong)

/-- 'revenantlaw13.CoreLinks': WHATEVER THE INPUT: true; the input reads as it did. -/
def coreLinksSpec : ChangeSpec := { name := "coreLinks", fn := fun _ => fun
  | [d1, d2, d3, d4] => { results := [.lit (.bool true)], args := [d1, d2, d3, d4] }
  | _ => none }
def coreLinksRow : OpenClaim := { program := "ytjediiajmnlonaa", sum := "d4490f2d22eb080f6552b80cd3c1025acbcf713259323c74108f0ef414b6ddfa", func := "revenant/revenantlaw13.CoreLinks", spec := "coreLinks", unfollowed := true, recurses := true, plainKeys := false, apart := false }
def CoreLinksSaid : Prop := coreLinksRow.holds Try.pinned (OpenSpec.ofChange coreLinksSpec)

/-- ITS FALSE NEIGHBOUR: 'it returns false'. Refute it at one input. -/
def coreLinksWrong : ChangeSpec := { name := "coreLinks", fn := fun _ => fun
  | [d1, d2, d3, d4] => { results := [.lit (.bool false)], args := [d1, d2, d3, d4] }
  | _ => none }
def CoreLinksWrongFalsely : Prop := coreLinksRow.holds Try.pinned (OpenSpec.ofChange coreLinksWrong)

/-- 'revenantlaw13.CoreNil': WHATEVER THE INPUT: true; the input reads as it did. -/
def coreNilSpec : ChangeSpec := { name := "coreNil", fn := fun _ => fun
  | [d1, d2] => { results := [.lit (.bool true)], args := [d1, d2] }
  | _ => none }
def coreNilRow : OpenClaim := { program := "ytjediiajmnlonaa", sum := "d4490f2d22eb080f6552b80cd3c1025acbcf713259323c74108f0ef414b6ddfa", func := "revenant/revenantlaw13.CoreNil", spec := "coreNil", unfollowed := true, recurses := true, plainKeys := false, apart := false }
def CoreNilSaid : Prop := coreNilRow.holds Try.pinned (OpenSpec.ofChange coreNilSpec)

/-- ITS FALSE NEIGHBOUR: 'it returns false'. Refute it at one input. -/
def coreNilWrong : ChangeSpec := { name := "coreNil", fn := fun _ => fun
  | [d1, d2] => { results := [.lit (.bool false)], args := [d1, d2] }
  | _ => none }
def CoreNilWrongFalsely : Prop := coreNilRow.holds Try.pinned (OpenSpec.ofChange coreNilWrong)

/-- 'revenantlaw24.HistExact': WHATEVER THE INPUT: true; the input reads as it did. -/
def histExactSpec : ChangeSpec := { name := "histExact", fn := fun _ => fun
  | [d] => { results := [.lit (.bool true)], args := [d] }
  | _ => none }
def histExactRow : OpenClaim := { program := "ytjediiajmnlonaa", sum := "d4490f2d22eb080f6552b80cd3c1025acbcf713259323c74108f0ef414b6ddfa", func := "revenant/revenantlaw24.HistExact", spec := "histExact", unfollowed := true, recurses := true, plainKeys := false, apart := false }
def HistExactSaid : Prop := histExactRow.holds Try.pinned (OpenSpec.ofChange histExactSpec)

/-- ITS FALSE NEIGHBOUR: 'it returns false'. Refute it at one input. -/
def histExactWrong : ChangeSpec := { name := "histExact", fn := fun _ => fun
  | [d] => { results := [.lit (.bool false)], args := [d] }
  | _ => none }
def HistExactWrongFalsely : Prop := histExactRow.holds Try.pinned (OpenSpec.ofChange histExactWrong)

/-- 'revenantlaw24.HistAhead': WHATEVER THE INPUT: true; the input reads as it did. -/
def histAheadSpec : ChangeSpec := { name := "histAhead", fn := fun _ => fun
  | [d1, d2, d3, d4] => { results := [.lit (.bool true)], args := [d1, d2, d3, d4] }
  | _ => none }
def histAheadRow : OpenClaim := { program := "ytjediiajmnlonaa", sum := "d4490f2d22eb080f6552b80cd3c1025acbcf713259323c74108f0ef414b6ddfa", func := "revenant/revenantlaw24.HistAhead", spec := "histAhead", unfollowed := true, recurses := true, plainKeys := false, apart := false }
def HistAheadSaid : Prop := histAheadRow.holds Try.pinned (OpenSpec.ofChange histAheadSpec)

/-- ITS FALSE NEIGHBOUR: 'it returns false'. Refute it at one input. -/
def histAheadWrong : ChangeSpec := { name := "histAhead", fn := fun _ => fun
  | [d1, d2, d3, d4] => { results := [.lit (.bool false)], args := [d1, d2, d3, d4] }
  | _ => none }
def HistAheadWrongFalsely : Prop := histAheadRow.holds Try.pinned (OpenSpec.ofChange histAheadWrong)

/-- 'revenantlaw04.CellSwaps': WHATEVER THE INPUT: true; the input reads as it did. -/
def cellSwapsSpec : ChangeSpec := { name := "cellSwaps", fn := fun _ => fun
  | [d1, d2, d3] => { results := [.lit (.bool true)], args := [d1, d2, d3] }
  | _ => none }
def cellSwapsRow : OpenClaim := { program := "ytjediiajmnlonaa", sum := "d4490f2d22eb080f6552b80cd3c1025acbcf713259323c74108f0ef414b6ddfa", func := "revenant/revenantlaw04.CellSwaps", spec := "cellSwaps", unfollowed := true, recurses := true, plainKeys := false, apart := false }
def CellSwapsSaid : Prop := cellSwapsRow.holds Try.pinned (OpenSpec.ofChange cellSwapsSpec)

/-- ITS FALSE NEIGHBOUR: 'it returns false'. Refute it at one input. -/
def cellSwapsWrong : ChangeSpec := { name := "cellSwaps", fn := fun _ => fun
  | [d1, d2, d3] => { results := [.lit (.bool false)], args := [d1, d2, d3] }
  | _ => none }
def CellSwapsWrongFalsely : Prop := cellSwapsRow.holds Try.pinned (OpenSpec.ofChange cellSwapsWrong)

/-- 'revenantlaw24.HistCalls': WHATEVER THE INPUT: true; the input reads as it did. -/
def histCallsSpec : ChangeSpec := { name := "histCalls", fn := fun _ => fun
  | [d1, d2] => { results := [.lit (.bool true)], args := [d1, d2] }
  | _ => none }
def histCallsRow : OpenClaim := { program := "ytjediiajmnlonaa", sum := "d4490f2d22eb080f6552b80cd3c1025acbcf713259323c74108f0ef414b6ddfa", func := "revenant/revenantlaw24.HistCalls", spec := "histCalls", unfollowed := true, recurses := true, plainKeys := false, apart := false }
def HistCallsSaid : Prop := histCallsRow.holds Try.pinned (OpenSpec.ofChange histCallsSpec)

/-- ITS FALSE NEIGHBOUR: 'it returns false'. Refute it at one input. -/
def histCallsWrong : ChangeSpec := { name := "histCalls", fn := fun _ => fun
  | [d1, d2] => { results := [.lit (.bool false)], args := [d1, d2] }
  | _ => none }
def HistCallsWrongFalsely : Prop := histCallsRow.holds Try.pinned (OpenSpec.ofChange histCallsWrong)

/- THE SECOND FORM. 'bulk': how many values and letters a reading holds, each counted each time it is reached (what is shared counts as often as it is met; a slice's spare places count too). A statement '..UptoSaid' is the law's where the arguments, and the package variables that the reading takes, are together of bulk at most 1048576: NARROWER than '..Said'. Prove '..Said' where nothing that the law and all that it calls make is longer than what came in: it says more and counts as full. Else prove '..UptoSaid'. A law counts once. -/
mutual
def uptoBulk {H : Type} : DataW H → Nat
  | .lit (.string bytes) => bytes.length + 1
  | .lit _ => 1
  | .nil => 1
  | .ptr d => uptoBulk d + 1
  | .slice elems spare => uptoBulkAll elems + uptoBulkAll spare + 1
  | .agg parts => uptoBulkAll parts + 1
  | .iface _ d => uptoBulk d + 1
  | .map entries => uptoBulkEntries entries + 1
  | .held _ => 1
def uptoBulkAll {H : Type} : List (DataW H) → Nat
  | [] => 0
  | d :: r => uptoBulk d + uptoBulkAll r
def uptoBulkEntries {H : Type} : List (Lit × DataW H) → Nat
  | [] => 0
  | x :: r => uptoBulkEntry x + uptoBulkEntries r
def uptoBulkEntry {H : Type} : Lit × DataW H → Nat
  | (.string bytes, d) => bytes.length + uptoBulk d + 1
  | (_, d) => uptoBulk d + 1
 end
def uptoSmall : (H : Type) → List (DataW H) → Bool := fun _ ds => decide (uptoBulkAll ds ≤ 1048576)
def OpenSpec.upto (s : _root_.Go.ChangeSpec) : _root_.Go.OpenSpec := { _root_.Go.OpenSpec.ofChange s with cond := some uptoSmall }

/-- 'revenantlaw11.QueueExact', WHERE WHAT IT READS IS OF BULK AT MOST 1048576: true; the input reads as it did. -/
def queueExactUptoRow : OpenClaim := { program := "ytjediiajmnlonaa", sum := "d4490f2d22eb080f6552b80cd3c1025acbcf713259323c74108f0ef414b6ddfa", func := "revenant/revenantlaw11.QueueExact", spec := "queueExact", unfollowed := true, recurses := true, plainKeys := false, apart := false, narrowed := true }
def QueueExactUptoSaid : Prop := queueExactUptoRow.holds Try.pinned (OpenSpec.upto queueExactSpec)

/-- 'revenantlaw11.QueueOrder', WHERE WHAT IT READS IS OF BULK AT MOST 1048576: true; the input reads as it did. -/
def queueOrderUptoRow : OpenClaim := { program := "ytjediiajmnlonaa", sum := "d4490f2d22eb080f6552b80cd3c1025acbcf713259323c74108f0ef414b6ddfa", func := "revenant/revenantlaw11.QueueOrder", spec := "queueOrder", unfollowed := true, recurses := true, plainKeys := false, apart := false, narrowed := true }
def QueueOrderUptoSaid : Prop := queueOrderUptoRow.holds Try.pinned (OpenSpec.upto queueOrderSpec)

/-- 'revenantlaw07.WorldNil', WHERE WHAT IT READS IS OF BULK AT MOST 1048576: true; the input reads as it did. -/
def worldNilUptoRow : OpenClaim := { program := "ytjediiajmnlonaa", sum := "d4490f2d22eb080f6552b80cd3c1025acbcf713259323c74108f0ef414b6ddfa", func := "revenant/revenantlaw07.WorldNil", spec := "worldNil", inPlace := ["maps.clone"], unfollowed := true, recurses := true, plainKeys := false, apart := false, narrowed := true }
def WorldNilUptoSaid : Prop := worldNilUptoRow.holds Try.pinned (OpenSpec.upto worldNilSpec)

/-- 'revenantlaw07.WorldBlind', WHERE WHAT IT READS IS OF BULK AT MOST 1048576: true; the input reads as it did. -/
def worldBlindUptoRow : OpenClaim := { program := "ytjediiajmnlonaa", sum := "d4490f2d22eb080f6552b80cd3c1025acbcf713259323c74108f0ef414b6ddfa", func := "revenant/revenantlaw07.WorldBlind", spec := "worldBlind", inPlace := ["maps.clone"], unfollowed := true, recurses := true, plainKeys := false, apart := false, narrowed := true }
def WorldBlindUptoSaid : Prop := worldBlindUptoRow.holds Try.pinned (OpenSpec.upto worldBlindSpec)

/-- 'revenantlaw13.CoreEpochs', WHERE WHAT IT READS IS OF BULK AT MOST 1048576: true; the input reads as it did. -/
def coreEpochsUptoRow : OpenClaim := { program := "ytjediiajmnlonaa", sum := "d4490f2d22eb080f6552b80cd3c1025acbcf713259323c74108f0ef414b6ddfa", func := "revenant/revenantlaw13.CoreEpochs", spec := "coreEpochs", unfollowed := true, recurses := true, plainKeys := false, apart := false, narrowed := true }
def CoreEpochsUptoSaid : Prop := coreEpochsUptoRow.holds Try.pinned (OpenSpec.upto coreEpochsSpec)

/-- 'revenantlaw13.CoreExact', WHERE WHAT IT READS IS OF BULK AT MOST 1048576: true; the input reads as it did. -/
def coreExactUptoRow : OpenClaim := { program := "ytjediiajmnlonaa", sum := "d4490f2d22eb080f6552b80cd3c1025acbcf713259323c74108f0ef414b6ddfa", func := "revenant/revenantlaw13.CoreExact", spec := "coreExact", unfollowed := true, recurses := true, plainKeys := false, apart := false, narrowed := true }
def CoreExactUptoSaid : Prop := coreExactUptoRow.holds Try.pinned (OpenSpec.upto coreExactSpec)

/-- 'revenantlaw13.CoreLinks', WHERE WHAT IT READS IS OF BULK AT MOST 1048576: true; the input reads as it did. -/
def coreLinksUptoRow : OpenClaim := { program := "ytjediiajmnlonaa", sum := "d4490f2d22eb080f6552b80cd3c1025acbcf713259323c74108f0ef414b6ddfa", func := "revenant/revenantlaw13.CoreLinks", spec := "coreLinks", unfollowed := true, recurses := true, plainKeys := false, apart := false, narrowed := true }
def CoreLinksUptoSaid : Prop := coreLinksUptoRow.holds Try.pinned (OpenSpec.upto coreLinksSpec)

/-- 'revenantlaw13.CoreNil', WHERE WHAT IT READS IS OF BULK AT MOST 1048576: true; the input reads as it did. -/
def coreNilUptoRow : OpenClaim := { program := "ytjediiajmnlonaa", sum := "d4490f2d22eb080f6552b80cd3c1025acbcf713259323c74108f0ef414b6ddfa", func := "revenant/revenantlaw13.CoreNil", spec := "coreNil", unfollowed := true, recurses := true, plainKeys := false, apart := false, narrowed := true }
def CoreNilUptoSaid : Prop := coreNilUptoRow.holds Try.pinned (OpenSpec.upto coreNilSpec)

/-- 'revenantlaw24.HistExact', WHERE WHAT IT READS IS OF BULK AT MOST 1048576: true; the input reads as it did. -/
def histExactUptoRow : OpenClaim := { program := "ytjediiajmnlonaa", sum := "d4490f2d22eb080f6552b80cd3c1025acbcf713259323c74108f0ef414b6ddfa", func := "revenant/revenantlaw24.HistExact", spec := "histExact", unfollowed := true, recurses := true, plainKeys := false, apart := false, narrowed := true }
def HistExactUptoSaid : Prop := histExactUptoRow.holds Try.pinned (OpenSpec.upto histExactSpec)

/-- 'revenantlaw24.HistAhead', WHERE WHAT IT READS IS OF BULK AT MOST 1048576: true; the input reads as it did. -/
def histAheadUptoRow : OpenClaim := { program := "ytjediiajmnlonaa", sum := "d4490f2d22eb080f6552b80cd3c1025acbcf713259323c74108f0ef414b6ddfa", func := "revenant/revenantlaw24.HistAhead", spec := "histAhead", unfollowed := true, recurses := true, plainKeys := false, apart := false, narrowed := true }
def HistAheadUptoSaid : Prop := histAheadUptoRow.holds Try.pinned (OpenSpec.upto histAheadSpec)

/-- 'revenantlaw04.CellSwaps', WHERE WHAT IT READS IS OF BULK AT MOST 1048576: true; the input reads as it did. -/
def cellSwapsUptoRow : OpenClaim := { program := "ytjediiajmnlonaa", sum := "d4490f2d22eb080f6552b80cd3c1025acbcf713259323c74108f0ef414b6ddfa", func := "revenant/revenantlaw04.CellSwaps", spec := "cellSwaps", unfollowed := true, recurses := true, plainKeys := false, apart := false, narrowed := true }
def CellSwapsUptoSaid : Prop := cellSwapsUptoRow.holds Try.pinned (OpenSpec.upto cellSwapsSpec)

/-- 'revenantlaw24.HistCalls', WHERE WHAT IT READS IS OF BULK AT MOST 1048576: true; the input reads as it did. -/
def histCallsUptoRow : OpenClaim := { program := "ytjediiajmnlonaa", sum := "d4490f2d22eb080f6552b80cd3c1025acbcf713259323c74108f0ef414b6ddfa", func := "revenant/revenantlaw24.HistCalls", spec := "histCalls", unfollowed := true, recurses := true, plainKeys := false, apart := false, narrowed := true }
def HistCallsUptoSaid : Prop := histCallsUptoRow.holds Try.pinned (OpenSpec.upto histCallsSpec)

end Rows
end Go.Proofs.Ytjediiajmnlonaa
