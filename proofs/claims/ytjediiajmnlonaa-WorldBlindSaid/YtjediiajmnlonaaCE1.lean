/- CoreEpochs: the states at its loop's head. No condition. -/
import Derived.Test.YtjediiajmnlonaaV5
import Derived.Test.YtjediiajmnlonaaN13a
import Derived.Test.YtjediiajmnlonaaC1
namespace Go.Proofs.Ytjediiajmnlonaa
abbrev iv (z : Int) : SV := .v (.int .i64 z)
abbrev uv (z : Int) : SV := .v (.int .u64 z)
def ceS (A : Nat → Int) (len : Nat) (i now : Int) (W : Nat → Int) (e0 e1 e2 e3 e4 e5 e6 e7 r0 r1 r2 r3 r4 r5 r6 r7 c0 c1 c2 c3 c4 : Int) (G : Pl → Int) (n : Nat) : Sym Rep :=
  ⟨[(6, .ptr 0 0), (5, .sl 1 0 0 8), (3, .ptr 2 0), (0, .tsl 3 len), (8, iv i), (4, iv now)],
   [(0, .rep (.vec [.int .i64 W] 8 80)), (1, .row [.ptr 4 0, .ptr 5 0, .ptr 6 0, .ptr 7 0, .ptr 8 0, .ptr 9 0, .ptr 10 0, .ptr 11 0] 81), (2, .row [.ptr 12 0] 169), (3, .rep (.tab [.int .i64 A] len)),
    (4, .row [iv 1, iv 3, iv 0, iv 1, iv 100, iv e0, .ptr 13 0, iv 0, iv 0, iv r0] 177), (5, .row [iv 1, iv 3, iv 0, iv 1, iv 100, iv e1, .ptr 14 0, iv 0, iv 0, iv r1] 177),
    (6, .row [iv 1, iv 3, iv 0, iv 1, iv 100, iv e2, .ptr 15 0, iv 0, iv 0, iv r2] 177), (7, .row [iv 1, iv 3, iv 0, iv 1, iv 100, iv e3, .ptr 16 0, iv 0, iv 0, iv r3] 177),
    (8, .row [iv 1, iv 3, iv 0, iv 1, iv 100, iv e4, .ptr 17 0, iv 0, iv 0, iv r4] 177), (9, .row [iv 1, iv 3, iv 0, iv 1, iv 100, iv e5, .ptr 18 0, iv 0, iv 0, iv r5] 177),
    (10, .row [iv 1, iv 3, iv 0, iv 1, iv 100, iv e6, .ptr 19 0, iv 0, iv 0, iv r6] 177), (11, .row [iv 1, iv 3, iv 0, iv 1, iv 100, iv e7, .ptr 20 0, iv 0, iv 0, iv r7] 177),
    (12, .row [.mp 21, iv c0, iv c1, iv c2, iv c3, iv c4] 173), (13, .rep .junk), (14, .rep .junk), (15, .rep .junk), (16, .rep .junk), (17, .rep .junk), (18, .rep .junk), (19, .rep .junk), (20, .rep .junk), (21, .rep (.pmap [] G n))], 22⟩
def ceCfg : Stop → List Gen × List Nat
  | .fin .ret _ => ([], [2])
  | .fin _ _ => ([.map 21], [6, 5, 3, 0, 8, 4])
  | .here _ _ _ => ([.arr 0 8 [.int .i64], .junk 13, .junk 14, .junk 15, .junk 16, .junk 17, .junk 18, .junk 19, .junk 20, .map 21], [6, 5, 3, 0, 8, 4])
/-- What holds at the loop's head. -/
def CEP (len : Nat) (i now : Int) (W : Nat → Int) (e0 e1 e2 e3 e4 e5 e6 e7 : Int) (G : Pl → Int) (n : Nat) : Prop :=
  (0 ≤ i ∧ i ≤ (len : Int) ∧ len ≤ 100 ∧ 1 ≤ now ∧ now ≤ 1 + i ∧ (n : Int) ≤ 1 + i) ∧ G (1, 0, 0) = now ∧ (W 0 = e0 ∧ W 1 = e1 ∧ W 2 = e2 ∧ W 3 = e3 ∧ W 4 = e4 ∧ W 5 = e5 ∧ W 6 = e6 ∧ W 7 = e7) ∧
  (0 ≤ e0 ∧ e0 ≤ now ∧ 0 ≤ e1 ∧ e1 ≤ now ∧ 0 ≤ e2 ∧ e2 ≤ now ∧ 0 ≤ e3 ∧ e3 ≤ now ∧ 0 ≤ e4 ∧ e4 ≤ now ∧ 0 ≤ e5 ∧ e5 ≤ now ∧ 0 ≤ e6 ∧ e6 ≤ now ∧ 0 ≤ e7 ∧ e7 ≤ now)
/-- What a deed asks. -/
def kk (z : Int) : Int := IntKind.u64.wrap z % 24
theorem kk_lt (z : Int) : 0 ≤ kk z ∧ kk z < 24 := ⟨Int.emod_nonneg _ (by decide), Int.emod_lt_of_pos _ (by decide)⟩
theorem kk_eq (z : Int) : IntKind.i64.wrap ((IntKind.u64.wrap z).tmod 24) = kk z := by
  have h := kk_lt z
  have hw := wrapU_pos z
  rw [Int.tmod_eq_emod_of_nonneg hw.1, show IntKind.u64.wrap z % 24 = kk z from rfl, wrapI (by omega) (by omega)]
theorem kk_mod (z : Int) : (kk z).tmod 8 = kk z % 8 := Int.tmod_eq_emod_of_nonneg (kk_lt z).1
theorem kk_div (z : Int) : IntKind.i64.wrap ((kk z).tdiv 8) = kk z / 8 := by
  have h := kk_lt z
  rw [Int.tdiv_eq_ediv_of_nonneg h.1, wrapI (by omega) (by omega)]
theorem beq_flip (a b : Int) : (a == b) = (b == a) := by
  rw [Bool.eq_iff_iff, beq_iff_eq, beq_iff_eq]
  exact eq_comm
theorem beq_turn (a b : Int) : ((a == b) == (b == a)) = true := by
  rw [beq_iff_eq, Bool.eq_iff_iff, beq_iff_eq, beq_iff_eq]
  exact eq_comm
theorem put_ok {z : Int} {n : Nat} {p : Pl} (hp : plWfB p = true) (h0 : 0 < z) (h1 : z < 18446744073709551616) (hn : n < 9223372036854775807) : (plWfB p && (Lit.int IntKind.u64 z).wf && z != 0 && decide (n < maxLen)) = true := by
  simp only [Bool.and_eq_true, bne_iff_ne, decide_eq_true_eq, hp, true_and]
  refine ⟨⟨?_, by omega⟩, by unfold maxLen; omega⟩
  simp [Lit.wf, IntKind.min, IntKind.max, IntKind.signed, IntKind.bits]
  omega
theorem ce_facts {len : Nat} {i now : Int} {W : Nat → Int} {e0 e1 e2 e3 e4 e5 e6 e7 : Int} {G : Pl → Int} {n : Nat} (hP : CEP len i now W e0 e1 e2 e3 e4 e5 e6 e7 G n) (z : Int) : (0 ≤ kk z ∧ kk z < 24) ∧ IntKind.i64.wrap now = now ∧ IntKind.u64.wrap (now + 1) = now + 1 ∧ IntKind.u64.wrap e0 = e0 ∧ IntKind.u64.wrap e1 = e1 ∧ IntKind.u64.wrap e2 = e2 ∧ IntKind.u64.wrap e3 = e3 ∧
    IntKind.u64.wrap e4 = e4 ∧ IntKind.u64.wrap e5 = e5 ∧ IntKind.u64.wrap e6 = e6 ∧ IntKind.u64.wrap e7 = e7 := by
  obtain ⟨hi, _, _, he⟩ := hP
  exact ⟨kk_lt z, wrapI (by omega) (by omega), wrapU (by omega) (by omega), wrapU (by omega) (by omega), wrapU (by omega) (by omega), wrapU (by omega) (by omega), wrapU (by omega) (by omega), wrapU (by omega) (by omega), wrapU (by omega) (by omega), wrapU (by omega) (by omega), wrapU (by omega) (by omega)⟩
theorem eight (z : Int) : z % 8 = 0 ∨ z % 8 = 1 ∨ z % 8 = 2 ∨ z % 8 = 3 ∨ z % 8 = 4 ∨ z % 8 = 5 ∨ z % 8 = 6 ∨ z % 8 = 7 := by omega
noncomputable abbrev ceF : FuncId := 7
noncomputable def ceL : Code × List Fr := loopOf Try.prog ceF 1
end Go.Proofs.Ytjediiajmnlonaa
