/- queue.Same of two queues that are known: whether they hold the same entries. -/
import Derived.Test.YtjediiajmnlonaaO1
import Derived.Test.YtjediiajmnlonaaQ9
namespace Go.Proofs.Ytjediiajmnlonaa
open Go.RowKit
attribute [local go_sem] withDeps relAt relUpon Stab.det Stab.own Stab.empty preAct pres isPre

set_option maxRecDepth 100000 in
theorem same_any {w : World} {q rb L f t q1 rb1 L1 f1 t1 : Nat} {xs ys : List Ent} (h : QAt w q rb L f t xs) (h1 : QAt w q1 rb1 L1 f1 t1 ys) :
    Calls Try.prog 29 #[.pointer (some ⟨q, 0, none⟩), .pointer (some ⟨q1, 0, none⟩)] w fun e w' => e = .returned (.bool (decide (xs = ys))) ∧ Mod [] w w' := by
  have H := hide h
  have H1 := hide h1
  clear h h1
  go_enter Try.func29, Try.ntmps29
  go_wp2_with fail
  refine (list_any H.out).mono ?_
  rintro e w2 ⟨A, c, rfl, hm2, ho⟩
  have h2 := H1.out.mod hm2 (by simp) (by simp)
  obtain ⟨b, hr, _⟩ := Rd.of_own ho
  have HR := hide hr
  have H2 := hide h2
  clear ho h2 hr
  go_wp2_with fail
  refine (list_any H2.out).mono ?_
  rintro e w3 ⟨A1, c1, rfl, hm3, ho⟩
  obtain ⟨b1, hr1, _⟩ := Rd.of_own ho
  have hr := HR.out.mod hm3 (by simp)
  have hE := equal_any (c0 := c) (c1 := c1) hr hr1 (by have := H.out.big; have := H.out.fits; omega)
  have HE := hide hE
  clear ho hr hr1 hE
  go_wp2_with fail
  refine HE.out.mono ?_
  rintro e w4 ⟨rfl, hm4⟩
  go_wp2
  go_ret
  exact ⟨rfl, (hm2.trans hm3 (by simp)).trans hm4 (by simp)⟩
end Go.Proofs.Ytjediiajmnlonaa
