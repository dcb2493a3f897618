/- The queue's small methods: what Len, at, Head and Pop answer, of a queue that is known. Conditions: the queue is not nil; counts below 2^40. -/
import Derived.Test.YtjediiajmnlonaaProg
import Derived.Test.YtjediiajmnlonaaBase
import Derived.Tactics
import Derived.Tactics2
import Derived.WalkKit
import Derived.Deep.RegionHeld3
import Derived.Deep.DeepCutAuto
import Derived.Deep.QuietTactic
import Derived.BigQuiet
import Derived.KernelRfl
import Derived.WideLaws
import Derived.WalkSpells
import Derived.Handy
import Derived.Laws.BitsAllLaws
import Derived.StillTailTactics
namespace Go.Proofs.Ytjediiajmnlonaa
open Go.RowKit

abbrev Ent := Int × Int × Int
def ent (e : Ent) : List Value := [.int .i64 e.1, .int .i64 e.2.1, .int .i64 e.2.2]
theorem ent_len (e : Ent) : (ent e).length = 3 := rfl

structure QAt (w : World) (q rb L f t : Nat) (xs : List Ent) : Prop where
  blk : Blk w q 159 [.slice (some ⟨rb, 0, none⟩) L L, .int .u64 f, .int .u64 t]
  ring : ∃ R : List Ent, R.length = L ∧ Blk w rb 35 (flat ent R) ∧ ∀ i, i < xs.length → R[(f + i) % L]? = xs[i]?
  pow : ∃ k, L = 2 ^ k
  pos : 4 ≤ L
  big : L < 1099511627776
  len : t = f + xs.length
  fits : xs.length ≤ L
  bound : t < 1099511627776

theorem mask (n k : Nat) (h : 2 ^ k < 1099511627776) (hn : n < 1099511627776) : bits .and .u64 (n : Int) (IntKind.u64.wrap (IntKind.i64.wrap (((2 ^ k : Nat) : Int) - 1))) = ((n % 2 ^ k : Nat) : Int) := by
  have hp : 0 < 2 ^ k := Nat.two_pow_pos k
  have e : IntKind.u64.wrap (IntKind.i64.wrap (((2 ^ k : Nat) : Int) - 1)) = ((2 ^ k - 1 : Nat) : Int) := by
    rw [IntWalk.i64_in _ (by omega), IntWalk.u64_in _ (by omega)]
    omega
  rw [e, u64_and_nat _ _ (by omega) (by omega), Nat.and_two_pow_sub_one_eq_mod]

theorem len_cells (q f t : Nat) (w : World) (hft : f ≤ t) (ht : t < 1099511627776) (h1 : w.cell? ⟨q, 1, none⟩ = some (.int .u64 f)) (h2 : w.cell? ⟨q, 2, none⟩ = some (.int .u64 t)) :
    Calls Try.prog 26 #[.pointer (some ⟨q, 0, none⟩)] w fun e w' => e = .returned (.int .i64 ((t : Int) - f)) ∧ ∃ n, w' = w.drewN n := by
  go_enter Try.func26, Try.ntmps26
  go_wp2
  go_quiet (fail)
  go_wp2
  go_ret
  exact ⟨rfl, _, rfl⟩

theorem at_cells (q rb k n : Nat) (w : World) (hL : 2 ^ k < 1099511627776) (hn : n < 1099511627776) (h0 : w.cell? ⟨q, 0, none⟩ = some (.slice (some ⟨rb, 0, none⟩) (2 ^ k) (2 ^ k))) :
    Calls Try.prog 86 #[.pointer (some ⟨q, 0, none⟩), .int .u64 n] w fun e w' => e = .returned (.pointer (some ⟨rb, (n % 2 ^ k) * 3, none⟩)) ∧ ∃ n, w' = w.drewN n := by
  have hp : 0 < 2 ^ k := Nat.two_pow_pos k
  have hm := mask n k hL hn
  have hlt : n % 2 ^ k < 2 ^ k := Nat.mod_lt _ hp
  generalize 2 ^ k = L at *
  generalize n % L = r at *
  go_enter Try.func86, Try.ntmps86
  go_wp2
  go_quiet (fail)
  go_wp2
  go_ret
  exact ⟨rfl, _, rfl⟩
end Go.Proofs.Ytjediiajmnlonaa
