/-
  No cell of these rows narrows 'for every input' (looked for: loops, veiled, ifaces, maps, wideKeys, modest, calm, conditions, laid).
  DERIVED. THE GIVEN ROWS OF THIS SEAT. 3 by the template 'for every input the law returns true; each argument reads behind the call as it read before'; 0 by the template 'total and deterministic' (their statements: YtfidcicpnikcgaaGreatTotals.lean).
  GIVEN WITH THE SEED: the statements are not yours to turn. If you find one false, say at which input.
  Laid BY PROGRAM, IN A SANDBOX (cutbox-rows.mjs): the forced cells as the released guide's own fill.sh prints them over the translation a2145611a0e1f7ca… (all of the seat's roots in one cut). By AI agents, Wed Nov 11 2026. No macro, syntax, notation, axiom, sorry.
-/
import Derived.Test.YtfidcicpnikcgaaGreatChecked
import GoSem.Claim
import GoSem.ClaimJoined
import GoSem.ClaimMapViews
import Derived.JoinedTies
import Derived.KernelRfl
namespace Go.Proofs.YtfidcicpnikcgaaGreat
/- THE CELL 'sum', in the pinned program and in every row, IS THE sha256 OF THE DUMP (.gsa) THAT YtfidcicpnikcgaaGreatProg.lean LOADS. Nothing in Lean hashes anything: it is a label: what it is worth is what the hold of that sum in a sandbox is worth. -/
noncomputable def Tryz.pinned : Pinned := { name := "ytfidcicpnikcgaagreat", sum := "a2145611a0e1f7cab78f6efec42fdf849ac7901eb328d43fcec642b55cf765a3", checked := Tryz.checked }
namespace Rows
def none {H : Type} : Left H := { results := [], args := [] }

/-- 'revenantlaw16.ChainNil': WHATEVER THE INPUT: true; the input reads as it did. -/
def chainNilSpec : ChangeSpec := { name := "chainNil", fn := fun _ => fun
  | [d1, d2] => { results := [.lit (.bool true)], args := [d1, d2] }
  | _ => none }
def chainNilRow : OpenClaim := { program := "ytfidcicpnikcgaagreat", sum := "a2145611a0e1f7cab78f6efec42fdf849ac7901eb328d43fcec642b55cf765a3", func := "revenant/revenantlaw16.ChainNil", spec := "chainNil", unfollowed := true, recurses := true, plainKeys := false, apart := false }
def ChainNilSaid : Prop := chainNilRow.holds Tryz.pinned (OpenSpec.ofChange chainNilSpec)

/-- ITS FALSE NEIGHBOUR: 'it returns false'. Refute it at one input. -/
def chainNilWrong : ChangeSpec := { name := "chainNil", fn := fun _ => fun
  | [d1, d2] => { results := [.lit (.bool false)], args := [d1, d2] }
  | _ => none }
def ChainNilWrongFalsely : Prop := chainNilRow.holds Tryz.pinned (OpenSpec.ofChange chainNilWrong)

/-- 'revenantlaw17.TableNil': WHATEVER THE INPUT: true; the input reads as it did. -/
def tableNilSpec : ChangeSpec := { name := "tableNil", fn := fun _ => fun
  | [d1, d2] => { results := [.lit (.bool true)], args := [d1, d2] }
  | _ => none }
def tableNilRow : OpenClaim := { program := "ytfidcicpnikcgaagreat", sum := "a2145611a0e1f7cab78f6efec42fdf849ac7901eb328d43fcec642b55cf765a3", func := "revenant/revenantlaw17.TableNil", spec := "tableNil", unfollowed := true, recurses := true, plainKeys := false, apart := false }
def TableNilSaid : Prop := tableNilRow.holds Tryz.pinned (OpenSpec.ofChange tableNilSpec)

/-- ITS FALSE NEIGHBOUR: 'it returns false'. Refute it at one input. -/
def tableNilWrong : ChangeSpec := { name := "tableNil", fn := fun _ => fun
  | [d1, d2] => { results := [.lit (.bool false)], args := [d1, d2] }
  | _ => none }
def TableNilWrongFalsely : Prop := tableNilRow.holds Tryz.pinned (OpenSpec.ofChange tableNilWrong)

/-- 'revenantlaw19.SkipNil': WHATEVER THE INPUT: true; the input reads as it did. -/
def skipNilSpec : ChangeSpec := { name := "skipNil", fn := fun _ => fun
  | [d1, d2] => { results := [.lit (.bool true)], args := [d1, d2] }
  | _ => none }
def skipNilRow : OpenClaim := { program := "ytfidcicpnikcgaagreat", sum := "a2145611a0e1f7cab78f6efec42fdf849ac7901eb328d43fcec642b55cf765a3", func := "revenant/revenantlaw19.SkipNil", spec := "skipNil", unfollowed := true, recurses := true, plainKeys := false, apart := false }
def SkipNilSaid : Prop := skipNilRow.holds Tryz.pinned (OpenSpec.ofChange skipNilSpec)

/-- ITS FALSE NEIGHBOUR: 'it returns false'. Refute it at one input. -/
def skipNilWrong : ChangeSpec := { name := "skipNil", fn := fun _ => fun
  | [d1, d2] => { results := [.lit (.bool false)], args := [d1, d2] }
  | _ => none }
def SkipNilWrongFalsely : Prop := skipNilRow.holds Tryz.pinned (OpenSpec.ofChange skipNilWrong)

/- THE SECOND FORM. 'bulk': how many values and letters a reading holds, each counted each time it is reached (what is shared counts as often as it is met; a slice's spare places count too). A statement '..UptoSaid' is the law's where the arguments, and the package variables that the reading takes, are together of bulk at most 1048576: NARROWER than '..Said'. Prove '..Said' where nothing that the law and all that it calls make is longer than what came in: it says more and counts as full. Else prove '..UptoSaid'. A law counts once. -/
mutual
def uptoBulk {H : Type} : DataW H → Nat
  | .lit (.string bytes) => bytes.length + 1
  | .lit _ => 1
  | .nil => 1
  | .ptr d => uptoBulk d + 1
  | .slice elems spare => uptoBulkAll elems + uptoBulkAll spare + 1
  | .agg parts => uptoBulkAll parts + 1
  | .iface _ d => uptoBulk d + 1
  | .map entries => uptoBulkEntries entries + 1
  | .held _ => 1
def uptoBulkAll {H : Type} : List (DataW H) → Nat
  | [] => 0
  | d :: r => uptoBulk d + uptoBulkAll r
def uptoBulkEntries {H : Type} : List (Lit × DataW H) → Nat
  | [] => 0
  | x :: r => uptoBulkEntry x + uptoBulkEntries r
def uptoBulkEntry {H : Type} : Lit × DataW H → Nat
  | (.string bytes, d) => bytes.length + uptoBulk d + 1
  | (_, d) => uptoBulk d + 1
 end
def uptoSmall : (H : Type) → List (DataW H) → Bool := fun _ ds => decide (uptoBulkAll ds ≤ 1048576)
def OpenSpec.upto (s : _root_.Go.ChangeSpec) : _root_.Go.OpenSpec := { _root_.Go.OpenSpec.ofChange s with cond := some uptoSmall }

/-- 'revenantlaw16.ChainNil', WHERE WHAT IT READS IS OF BULK AT MOST 1048576: true; the input reads as it did. -/
def chainNilUptoRow : OpenClaim := { program := "ytfidcicpnikcgaagreat", sum := "a2145611a0e1f7cab78f6efec42fdf849ac7901eb328d43fcec642b55cf765a3", func := "revenant/revenantlaw16.ChainNil", spec := "chainNil", unfollowed := true, recurses := true, plainKeys := false, apart := false, narrowed := true }
def ChainNilUptoSaid : Prop := chainNilUptoRow.holds Tryz.pinned (OpenSpec.upto chainNilSpec)

/-- 'revenantlaw17.TableNil', WHERE WHAT IT READS IS OF BULK AT MOST 1048576: true; the input reads as it did. -/
def tableNilUptoRow : OpenClaim := { program := "ytfidcicpnikcgaagreat", sum := "a2145611a0e1f7cab78f6efec42fdf849ac7901eb328d43fcec642b55cf765a3", func := "revenant/revenantlaw17.TableNil", spec := "tableNil", unfollowed := true, recurses := true, plainKeys := false, apart := false, narrowed := true }
def TableNilUptoSaid : Prop := tableNilUptoRow.holds Tryz.pinned (OpenSpec.upto tableNilSpec)

/-- 'revenantlaw19.SkipNil', WHERE WHAT IT READS IS OF BULK AT MOST 1048576: true; the input reads as it did. -/
def skipNilUptoRow : OpenClaim := { program := "ytfidcicpnikcgaagreat", sum := "a2145611a0e1f7cab78f6efec42fdf849ac7901eb328d43fcec642b55cf765a3", func := "revenant/revenantlaw19.SkipNil", spec := "skipNil", unfollowed := true, recurses := true, plainKeys := false, apart := false, narrowed := true }
def SkipNilUptoSaid : Prop := skipNilUptoRow.holds Tryz.pinned (OpenSpec.upto skipNilSpec)

end Rows
end Go.Proofs.YtfidcicpnikcgaaGreat
