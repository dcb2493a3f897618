/- How an argument of type '[]queue.Entry' stands in memory: a row of entries, three numbers each. No condition. -/
import Derived.Test.YtjediiajmnlonaaOpen
import Derived.Test.YtjediiajmnlonaaQ1
import Derived.WalkKit
import Derived.ProofKit
namespace Go.Proofs.Ytjediiajmnlonaa
open Go.ChangeShapes Go.WideShapes Go.ChangeAt Go.RowKit Go.Deep

theorem own_ : ownKnob Try.prog.godebug = none := by kernel_rfl
theorem laid_ : laidOutB Try.prog = true := by kernel_rfl

section
variable {H : Type} {enc : TypeId × Value → H} {w : World} {base : Nat} {spare : Nat → Bool} {held : Bool}

set_option maxRecDepth 100000 in
/-- An entry's cells. -/
theorem ent_of_trod (n : Nat) (cs : List Value) (d : DataW H × List MemPlace) (h : DataW.trod enc Try.prog w base spare held n 35 cs = some d) : ∃ e : Ent, cs = ent e ∧ True := by
  obtain ⟨y0, y1, y2, m, _, hl, h0, h1, h2⟩ := trod_struct3 Try.underlying35 h
  obtain ⟨a, ha, _, _⟩ := DataW.trod_int Try.underlying3 h0
  obtain ⟨b, hb, _, _⟩ := DataW.trod_int Try.underlying3 h1
  obtain ⟨c, hc, _, _⟩ := DataW.trod_int Try.underlying3 h2
  have hC : Try.prog.cellsOf 35 = 3 := by kernel_rfl
  have hI : Try.prog.cellsOf 3 = 1 := by kernel_rfl
  rw [hC] at hl
  match cs, hl with
  | [u0, u1, u2], _ =>
    simp [hI] at ha hb hc
    exact ⟨(a, b, c), by simp [ent, ha, hb, hc], trivial⟩

theorem ents_of_trod {fuel : Nat} {cs : List Value} {x : DataW H × List MemPlace} (h : DataW.trod enc Try.prog w base spare held fuel 22 cs = some x) :
    ∃ (A : Option Addr) (cap b o : Nat) (xs : List Ent), cs = [.slice A xs.length cap] ∧ xs.length ≤ maxLen ∧ Rd w b o A (flat ent xs) ∧ ∀ a ∈ xs, True :=
  rd_slice ent_len (by decide) (fun _ => True) Try.underlying22 (by kernel_rfl) ent_of_trod h

end
end Go.Proofs.Ytjediiajmnlonaa
