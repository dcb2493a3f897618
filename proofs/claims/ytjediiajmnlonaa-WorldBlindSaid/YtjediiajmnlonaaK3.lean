/- maps.Clone at maps of places: the shelf's contract, laid at this program. -/
import Derived.Test.YtjediiajmnlonaaM2
import Derived.Shelf.SlMaps.Clone
namespace Go.Proofs.Ytjediiajmnlonaa
open Go.Shelf Go.RowKit

def clone_ren : Go.Shelf.Ren := ⟨fun | 5 => 122 | 7 => 138 | n => n, fun | 23 => 171 | 25 => 53 | 3 => 56 | 4 => 4 | 20 => 20 | n => n, fun n => n⟩
theorem clone_laid : SlLaysW.n5 Try.prog clone_ren := {
  mixed := by kernel_rfl
  f5 := ⟨Try.f122.name, by decide, Try.func122.trans (congrArg some (by kernel_rfl))⟩
  f7 := Try.func138.trans (congrArg some (by kernel_rfl))
  t4 := Try.underlying4
  a4 := Try.isAgg4
  z4 := Try.sizeOf4
  v4 := Try.zeroValue4
  t20 := Try.underlying20
  a20 := Try.isAgg20
  z20 := Try.sizeOf20
  v20 := Try.zeroValue20
  t23 := Try.underlying171
  a23 := Try.isAgg171
  z23 := Try.sizeOf171
  v23 := Try.zeroValue171 }

theorem clone_at {w : World} {b n : Nat} {f : Pl → Int} (m : MapAt w b f n) :
    Calls Try.prog 122 #[.map (some b)] w fun e w' => e = .returned (.map (some w.heap.size)) ∧ MapAt w' w.heap.size f n ∧ Below w.heap.size w w' := by
  obtain ⟨D, o, a, h⟩ := m
  refine (AnyW.maps_Clone_owns clone_laid 53 (plainElem Try.prog 56) b n D w o).mono ?_
  rintro e w' ⟨rfl, h1, _, h2⟩
  exact ⟨rfl, ⟨D, h1, a, h⟩, h2⟩
end Go.Proofs.Ytjediiajmnlonaa
