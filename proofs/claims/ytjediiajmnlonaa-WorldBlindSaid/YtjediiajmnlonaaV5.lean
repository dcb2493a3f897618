/- Rows of numbers as functions. No condition. -/
import Derived.Test.YtjediiajmnlonaaP2
namespace Go.Proofs.Ytjediiajmnlonaa
theorem updI_same {α : Type} {W : Nat → α} {i : Nat} {v : α} : updI W i v i = v := by simp [updI]
theorem updI_other {α : Type} {W : Nat → α} {i j : Nat} {v : α} (h : j ≠ i) : updI W i v j = W j := by simp [updI, h]
theorem joinI_old {α : Type} {W V : Nat → α} {n i : Nat} (h : i < n) : joinI W n V i = W i := by simp [joinI, h]
theorem joinI_new {α : Type} {W V : Nat → α} {n i : Nat} (h : n ≤ i) : joinI W n V i = V (i - n) := by simp [joinI, Nat.not_lt.2 h]
theorem getL_nil {g : Pl → Int} : getL [] g = g := rfl
theorem getL_same {l : List (Pl × Int)} {g : Pl → Int} {p : Pl} {v : Int} : getL ((p, v) :: l) g p = v := by simp [getL]
theorem getL_other {l : List (Pl × Int)} {g : Pl → Int} {p q : Pl} {v : Int} (h : q ≠ p) : getL ((p, v) :: l) g q = getL l g q := by simp [getL, h]
end Go.Proofs.Ytjediiajmnlonaa
