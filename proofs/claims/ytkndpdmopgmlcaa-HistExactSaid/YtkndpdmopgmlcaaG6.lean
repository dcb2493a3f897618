/- The document's Of of layer 24: the states at its loops' heads, and what it keeps. No condition. -/
import Derived.Test.YtkndpdmopgmlcaaG5
section
/- The document's Of of layer 24: the states at its loops' heads, and what it keeps. No condition. -/
namespace Go.Proofs.Ytkndpdmopgmlcaa
noncomputable abbrev hrF : FuncId := 23
noncomputable abbrev hrZ : Nat := slotsOf Try.prog hrF
noncomputable def hrL : Code × List Fr := loopOf Try.prog hrF 0
noncomputable def hrL2 : Code × List Fr := loopIn hrL 0
abbrev hrTab (a : HEA) : Chunk Rep := .rep (.vec [.int .i64 a.TH, .bool a.ID, .int .i64 a.K, .int .u64 a.KY, .int .u64 a.VL, .int .i64 a.LV, .int .i64 a.AT, .bool a.BG, .bool a.OV, .int .i64 a.ER, .bool a.DN, .int .u64 a.AV] a.len 75)
def hrS (a : HEA) (i : Int) (CT CA CK CY CV CL CF CO CE : Nat → Int) (CD : Nat → Bool) (CW : Nat → Int) (n : Nat) : Sym Rep :=
  ⟨[(4, .tsl 1 n), (0, .tsl 0 a.len), (5, iv i)], [(0, hrTab a), (1, .rep (.vec [.int .i64 CT, .int .i64 CA, .int .i64 CK, .int .u64 CY, .int .u64 CV, .int .i64 CL, .int .i64 CF, .int .i64 CO, .int .i64 CE, .bool CD, .int .u64 CW] n 83))], 2⟩
def hiS (a : HEA) (i : Int) (CT CA CK CY CV CL CF CO CE : Nat → Int) (CD : Nat → Bool) (CW : Nat → Int) (n : Nat) (at_ k : Int) : Sym Rep :=
  ⟨[(4, .tsl 1 n), (0, .tsl 0 a.len), (5, iv i), (6, .ptr 2 0), (7, iv at_), (8, iv k)], [(0, hrTab a), (1, .rep (.vec [.int .i64 CT, .int .i64 CA, .int .i64 CK, .int .u64 CY, .int .u64 CV, .int .i64 CL, .int .i64 CF, .int .i64 CO, .int .i64 CE, .bool CD, .int .u64 CW] n 83)),
    (2, .row [iv (a.TH i.toNat), .v (.bool (a.ID i.toNat)), iv (a.K i.toNat), .v (.int .u64 (a.KY i.toNat)), .v (.int .u64 (a.VL i.toNat)), iv (a.LV i.toNat), iv (a.AT i.toNat), .v (.bool (a.BG i.toNat)), .v (.bool (a.OV i.toNat)), iv (a.ER i.toNat), .v (.bool (a.DN i.toNat)), .v (.int .u64 (a.AV i.toNat))] 75)], 3⟩
def hrCfg : Stop → List Gen × List Nat
  | .fin .ret _ => ([], [2, 3])
  | _ => ([], [4, 0, 5])
def hiCfg : Stop → List Gen × List Nat
  | .fin .ret _ => ([], [2, 3])
  | _ => ([], [4, 0, 5, 6, 7, 8])
def hrCfg0 : Stop → List Gen × List Nat := fun _ => ([.row 1 0 [.int .i64, .int .i64, .int .i64, .int .u64, .int .u64, .int .i64, .int .i64, .int .i64, .int .i64, .bool, .int .u64]], [4, 0, 5])
def hrCfg2 : Stop → List Gen × List Nat
  | .fin .ret _ => ([], [2, 3])
  | .here _ _ _ => ([], [4, 0, 5, 6, 7, 8])
  | _ => ([], [4, 0, 5])
def hrP (a : HEA) (i : Int) (CT CA CK CY CV CL CF CO CE : Nat → Int) (CD : Nat → Bool) (CW : Nat → Int) (n : Nat) : Prop :=
  0 ≤ i ∧ i ≤ (a.len : Int) ∧ a.len ≤ 200 ∧ n ≤ i.toNat ∧ ∃ cs, a.calls i.toNat = some cs ∧ n = cs.length ∧ HRow cs CT CA CK CY CV CL CF CO CE CD CW
def hiP (a : HEA) (i : Int) (CT CA CK CY CV CL CF CO CE : Nat → Int) (CD : Nat → Bool) (CW : Nat → Int) (n : Nat) (at_ k : Int) : Prop :=
  0 ≤ k ∧ k ≤ (n : Int) ∧ 0 ≤ i ∧ i < (a.len : Int) ∧ a.len ≤ 200 ∧ a.ID i.toNat = false ∧ n ≤ i.toNat ∧ ∃ cs, a.calls i.toNat = some cs ∧ n = cs.length ∧ HRow cs CT CA CK CY CV CL CF CO CE CD CW ∧ at_ = lastAt cs (a.TH i.toNat) k.toNat
abbrev hrQ (a : HEA) : Ex → Sym Rep → Prop := Ends Try.prog Try.f23 fun l s => match a.res with
  | some cs => l = [.tsl 1 cs.length, .v (.bool true)] ∧ s.hp = [(0, hrTab a), (1, .rep (.vec (hcCols cs) cs.length 83))]
  | none => l = [.v (.slice none 0 0), .v (.bool false)] ∧ s.hp = [(0, hrTab a)]
theorem hr_to {a : HEA} {i : Int} {CT CA CK CY CV CL CF CO CE : Nat → Int} {CD : Nat → Bool} {CW : Nat → Int} {n : Nat} (i0 : 0 ≤ i) (i1 : i < (a.len : Int)) (hL : a.len ≤ 200) {n0 : Nat} (hn : n ≤ n0 + 1) (hn0 : n0 ≤ i.toNat) {cs0 cs : List HC} (h1 : a.calls i.toNat = some cs0) (hs : seeC cs0 (a.at i.toNat) i = some cs) (hl : n = cs.length) (hR : HRow cs CT CA CK CY CV CL CF CO CE CD CW) : hrP a (IntKind.i64.wrap (i + 1)) CT CA CK CY CV CL CF CO CE CD CW n := by
  have hw : IntKind.i64.wrap (i + 1) = i + 1 := wrapI (by omega) (by omega)
  rw [hrP, hw]
  have hi : (i + 1).toNat = i.toNat + 1 := by omega
  rw [hi]
  refine ⟨by omega, by omega, hL, by omega, cs, ?_, hl, hR⟩
  simp only [HEA.calls, h1]
  rw [show ((i.toNat : Nat) : Int) = i by omega]
  exact hs
theorem hr_less {a : HEA} {i : Int} (i1 : i < (a.len : Int)) (i0 : 0 ≤ i) (hL : a.len ≤ 200) {r : Nat} (hr : r = a.len - i.toNat) : a.len - (IntKind.i64.wrap (i + 1)).toNat < r := by
  rw [wrapI (by omega) (by omega)]
  omega
theorem hr_idle {a : HEA} {i : Int} {CT CA CK CY CV CL CF CO CE : Nat → Int} {CD : Nat → Bool} {CW : Nat → Int} {n : Nat} (hP : hrP a i CT CA CK CY CV CL CF CO CE CD CW n) (h0 : decide (i < (a.len : Int)) = true) (h2 : a.ID i.toNat = true) : hrP a (IntKind.i64.wrap (i + 1)) CT CA CK CY CV CL CF CO CE CD CW n := by
  obtain ⟨i0, i1, hL, hn, cs, h1, hl, hR⟩ := hP
  exact hr_to i0 (of_decide_eq_true h0) hL (Nat.le_succ _) hn h1 (if_pos h2) hl hR
theorem hr_in {a : HEA} {i : Int} {CT CA CK CY CV CL CF CO CE : Nat → Int} {CD : Nat → Bool} {CW : Nat → Int} {n : Nat} (hP : hrP a i CT CA CK CY CV CL CF CO CE CD CW n) (h0 : decide (i < (a.len : Int)) = true) (h2 : a.ID i.toNat = false) : hiP a i CT CA CK CY CV CL CF CO CE CD CW n (-1) 0 := by
  obtain ⟨i0, i1, hL, hn, cs, h1, hl, hR⟩ := hP
  exact ⟨by decide, by omega, i0, of_decide_eq_true h0, hL, h2, hn, cs, h1, hl, hR, rfl⟩
theorem lastAt_succ {cs : List HC} {t : Int} {n : Nat} : lastAt cs t (n + 1) = if (cs.getD n hc0).th = t ∧ (cs.getD n hc0).T = -1 then (n : Int) else lastAt cs t n := rfl
theorem hi_step {a : HEA} {i : Int} {CT CA CK CY CV CL CF CO CE : Nat → Int} {CD : Nat → Bool} {CW : Nat → Int} {n : Nat} {at_ k : Int} (hQ : hiP a i CT CA CK CY CV CL CF CO CE CD CW n at_ k) (h0 : decide (k < (n : Int)) = true) {at2 : Int} (ha : at2 = if CT k.toNat = a.TH i.toNat ∧ CO k.toNat = -1 then k else at_) : hiP a i CT CA CK CY CV CL CF CO CE CD CW n at2 (IntKind.i64.wrap (k + 1)) := by
  obtain ⟨k0, k1, i0, i1, hL, h2, hn, cs, h1, hl, hR, rfl⟩ := hQ
  have e0 := of_decide_eq_true h0
  have hw : IntKind.i64.wrap (k + 1) = k + 1 := wrapI (by omega) (by omega)
  rw [hiP, hw]
  refine ⟨by omega, by omega, i0, i1, hL, h2, hn, cs, h1, hl, hR, ?_⟩
  rw [show (k + 1).toNat = k.toNat + 1 by omega, ha, lastAt_succ, hR.th _ (by omega), hR.T _ (by omega), show ((k.toNat : Nat) : Int) = k by omega]
theorem hr_push {a : HEA} {i : Int} {CT CA CK CY CV CL CF CO CE : Nat → Int} {CD : Nat → Bool} {CW : Nat → Int} {n : Nat} {at_ k : Int} (hQ : hiP a i CT CA CK CY CV CL CF CO CE CD CW n at_ k) (hk : decide (k < (n : Int)) = false) (h0 : (a.BG i.toNat == (at_ == -1)) = true) (h1' : (at_ == -1) = true) (h9 : a.OV i.toNat = false) (h10 : (a.ER i.toNat == 0 && (a.DN i.toNat == false && (a.AV i.toNat == 0 && true))) = true) : hrP a (IntKind.i64.wrap (i + 1)) (joinI CT n fun _ => a.TH i.toNat) (joinI CA n fun _ => a.AT i.toNat) (joinI CK n fun _ => a.K i.toNat) (joinI CY n fun _ => a.KY i.toNat) (joinI CV n fun _ => a.VL i.toNat) (joinI CL n fun _ => a.LV i.toNat) (joinI CF n fun _ => i) (joinI CO n fun _ => -1) (joinI CE n fun _ => 0) (joinI CD n fun _ => false) (joinI CW n fun _ => 0) (n + 1) := by
  obtain ⟨k0, k1, i0, i1, hL, h2, hn, cs, h1, hl, hR, hat⟩ := hQ
  have hk' := of_decide_eq_false hk
  rw [show k.toNat = cs.length by omega] at hat
  subst hat
  have s2 : lastAt cs (a.TH i.toNat) cs.length = -1 := by simpa using h1'
  have h5 : a.BG i.toNat = true := by have := eq_of_beq h0; rw [this, s2]; rfl
  refine hr_to (cs := cs ++ [(a.at i.toNat).new i]) i0 i1 hL (Nat.le_refl _) hn h1 ?_ (by simp [hl]) (hR.push ((a.at i.toNat).new i) hl)
  simp only [Bool.and_eq_true, beq_iff_eq, Bool.and_true] at h10
  simp [seeC, HEA.at, h2, s2, h5, h9, noAns, h10, HE.new]
theorem hr_done {a : HEA} {i : Int} {CT CA CK CY CV CL CF CO CE : Nat → Int} {CD : Nat → Bool} {CW : Nat → Int} {n : Nat} {at_ k : Int} (hQ : hiP a i CT CA CK CY CV CL CF CO CE CD CW n at_ k) (hk : decide (k < (n : Int)) = false) (h0 : (a.BG i.toNat == (at_ == -1)) = true) (h1' : (at_ == -1) = true) (h9 : a.OV i.toNat = true) : hrP a (IntKind.i64.wrap (i + 1)) (joinI CT n fun _ => a.TH i.toNat) (joinI CA n fun _ => a.AT i.toNat) (joinI CK n fun _ => a.K i.toNat) (joinI CY n fun _ => a.KY i.toNat) (joinI CV n fun _ => a.VL i.toNat) (joinI CL n fun _ => a.LV i.toNat) (joinI CF n fun _ => i) (updI (joinI CO n fun _ => -1) n i) (updI (joinI CE n fun _ => 0) n (a.ER i.toNat)) (updI (joinI CD n fun _ => false) n (a.DN i.toNat)) (updI (joinI CW n fun _ => 0) n (a.AV i.toNat)) (n + 1) := by
  obtain ⟨k0, k1, i0, i1, hL, h2, hn, cs, h1, hl, hR, hat⟩ := hQ
  have hk' := of_decide_eq_false hk
  rw [show k.toNat = cs.length by omega] at hat
  subst hat
  have s2 : lastAt cs (a.TH i.toNat) cs.length = -1 := by simpa using h1'
  have h5 : a.BG i.toNat = true := by have := eq_of_beq h0; rw [this, s2]; rfl
  have hset : (cs ++ [(a.at i.toNat).new i]).set n (((cs ++ [(a.at i.toNat).new i]).getD n hc0).close (a.at i.toNat) i) = cs ++ [((a.at i.toNat).new i).close (a.at i.toNat) i] := by
    rw [hl, getD_app_new]; simp
  have hR2 := (hR.push ((a.at i.toNat).new i) hl).close (a.at i.toNat) i (p := n) (by simp [hl])
  rw [hset] at hR2
  refine hr_to (cs := cs ++ [((a.at i.toNat).new i).close (a.at i.toNat) i]) i0 i1 hL (Nat.le_refl _) hn h1 ?_ (by simp [hl]) hR2
  simp [seeC, HEA.at, h2, s2, h5, h9]
theorem hr_stay {a : HEA} {i : Int} {CT CA CK CY CV CL CF CO CE : Nat → Int} {CD : Nat → Bool} {CW : Nat → Int} {n : Nat} {at_ k : Int} (hQ : hiP a i CT CA CK CY CV CL CF CO CE CD CW n at_ k) (hk : decide (k < (n : Int)) = false) (h0 : (a.BG i.toNat == (at_ == -1)) = true) (h1' : (at_ == -1) = false) {p : Nat} (hp : p = at_.toNat) (h6 : (CK p == a.K i.toNat && (CY p == a.KY i.toNat && (CV p == a.VL i.toNat && (CL p == a.LV i.toNat && true)))) = true) (h7 : (CA p != a.AT i.toNat) = false) (h9 : a.OV i.toNat = false) (h10 : (a.ER i.toNat == 0 && (a.DN i.toNat == false && (a.AV i.toNat == 0 && true))) = true) : hrP a (IntKind.i64.wrap (i + 1)) CT CA CK CY CV CL CF CO CE CD CW n := by
  obtain ⟨k0, k1, i0, i1, hL, h2, hn, cs, h1, hl, hR, hat⟩ := hQ
  have hk' := of_decide_eq_false hk
  rw [show k.toNat = cs.length by omega] at hat
  subst hat
  have s2 : lastAt cs (a.TH i.toNat) cs.length ≠ -1 := by simpa using h1'
  have h5 : a.BG i.toNat = false := by have := eq_of_beq h0; rw [this]; simpa using h1'
  obtain ⟨g1, g2, _⟩ := lastAt_lt s2
  have hpl : p < cs.length := by omega
  rw [hR.k p hpl, hR.key p hpl, hR.val p hpl, hR.lev p hpl] at h6
  rw [hR.at_ p hpl] at h7
  refine hr_to (cs := cs) i0 i1 hL (Nat.le_succ _) hn h1 ?_ hl hR
  simp only [seeC, HEA.at, h2, h5, h9, s2, ← hp, badOp, h6, h7, noAns, h10]
  simp
theorem hr_close {a : HEA} {i : Int} {CT CA CK CY CV CL CF CO CE : Nat → Int} {CD : Nat → Bool} {CW : Nat → Int} {n : Nat} {at_ k : Int} (hQ : hiP a i CT CA CK CY CV CL CF CO CE CD CW n at_ k) (hk : decide (k < (n : Int)) = false) (h0 : (a.BG i.toNat == (at_ == -1)) = true) (h1' : (at_ == -1) = false) {p : Nat} (hp : p = at_.toNat) (h6 : (CK p == a.K i.toNat && (CY p == a.KY i.toNat && (CV p == a.VL i.toNat && (CL p == a.LV i.toNat && true)))) = true) (h7 : (CA p != a.AT i.toNat) = false) (h9 : a.OV i.toNat = true) : hrP a (IntKind.i64.wrap (i + 1)) CT CA CK CY CV CL CF (updI CO p i) (updI CE p (a.ER i.toNat)) (updI CD p (a.DN i.toNat)) (updI CW p (a.AV i.toNat)) n := by
  obtain ⟨k0, k1, i0, i1, hL, h2, hn, cs, h1, hl, hR, hat⟩ := hQ
  have hk' := of_decide_eq_false hk
  rw [show k.toNat = cs.length by omega] at hat
  subst hat
  have s2 : lastAt cs (a.TH i.toNat) cs.length ≠ -1 := by simpa using h1'
  have h5 : a.BG i.toNat = false := by have := eq_of_beq h0; rw [this]; simpa using h1'
  obtain ⟨g1, g2, _⟩ := lastAt_lt s2
  have hpl : p < cs.length := by omega
  rw [hR.k p hpl, hR.key p hpl, hR.val p hpl, hR.lev p hpl] at h6
  rw [hR.at_ p hpl] at h7
  refine hr_to (cs := cs.set p ((cs.getD p hc0).close (a.at i.toNat) i)) i0 i1 hL (Nat.le_succ _) hn h1 ?_ (by simp [hl]) (hR.close (a.at i.toNat) i hpl)
  simp only [seeC, HEA.at, h2, h5, h9, s2, ← hp, badOp, h6, h7]
  simp
theorem hr_none {a : HEA} {i : Int} {cs : List HC} (i0 : 0 ≤ i) (i1 : i < (a.len : Int)) (h1 : a.calls i.toNat = some cs) (h : seeC cs (a.at i.toNat) i = none) : a.res = none := by
  refine HEA.calls_none (k := i.toNat + 1) ?_ (by omega)
  simp only [HEA.calls, h1]
  rw [show ((i.toNat : Nat) : Int) = i by omega]
  exact h
theorem hr_b1 {a : HEA} {i : Int} {CT CA CK CY CV CL CF CO CE : Nat → Int} {CD : Nat → Bool} {CW : Nat → Int} {n : Nat} {at_ k : Int} (hQ : hiP a i CT CA CK CY CV CL CF CO CE CD CW n at_ k) (hk : decide (k < (n : Int)) = false) (h0 : (a.BG i.toNat == (at_ == -1)) = false) : a.res = none := by
  obtain ⟨k0, k1, i0, i1, hL, h2, hn, cs, h1, hl, hR, hat⟩ := hQ
  have hk' := of_decide_eq_false hk
  rw [show k.toNat = cs.length by omega] at hat
  subst hat
  refine hr_none i0 i1 h1 ?_
  by_cases e : lastAt cs (a.TH i.toNat) cs.length = -1
  · rw [e] at h0
    have h5 : a.BG i.toNat = false := by simpa using h0
    simp [seeC, HEA.at, h2, e, h5]
  · have h5 : a.BG i.toNat = true := by
      have e' : (lastAt cs (a.TH i.toNat) cs.length == -1) = false := by simpa using e
      rw [e'] at h0
      simpa using h0
    simp [seeC, HEA.at, h2, e, h5]
theorem hr_b2 {a : HEA} {i : Int} {CT CA CK CY CV CL CF CO CE : Nat → Int} {CD : Nat → Bool} {CW : Nat → Int} {n : Nat} {at_ k : Int} (hQ : hiP a i CT CA CK CY CV CL CF CO CE CD CW n at_ k) (hk : decide (k < (n : Int)) = false) (h0 : (a.BG i.toNat == (at_ == -1)) = true) (h1' : (at_ == -1) = true) (h9 : a.OV i.toNat = false) (h10 : (a.ER i.toNat == 0 && (a.DN i.toNat == false && (a.AV i.toNat == 0 && true))) = false) : a.res = none := by
  obtain ⟨k0, k1, i0, i1, hL, h2, hn, cs, h1, hl, hR, hat⟩ := hQ
  have hk' := of_decide_eq_false hk
  rw [show k.toNat = cs.length by omega] at hat
  subst hat
  have s2 : lastAt cs (a.TH i.toNat) cs.length = -1 := by simpa using h1'
  have h5 : a.BG i.toNat = true := by have := eq_of_beq h0; rw [this, s2]; rfl
  refine hr_none i0 i1 h1 ?_
  have h15' : noAns (a.ER i.toNat) (a.DN i.toNat) (a.AV i.toNat) = false := h10
  simp [seeC, HEA.at, h2, s2, h5, h9, h15']
theorem hr_b3 {a : HEA} {i : Int} {CT CA CK CY CV CL CF CO CE : Nat → Int} {CD : Nat → Bool} {CW : Nat → Int} {n : Nat} {at_ k : Int} (hQ : hiP a i CT CA CK CY CV CL CF CO CE CD CW n at_ k) (hk : decide (k < (n : Int)) = false) (h0 : (a.BG i.toNat == (at_ == -1)) = true) (h1' : (at_ == -1) = false) {p : Nat} (hp : p = at_.toNat) (h6 : (CK p == a.K i.toNat && (CY p == a.KY i.toNat && (CV p == a.VL i.toNat && (CL p == a.LV i.toNat && true)))) = false) : a.res = none := by
  obtain ⟨k0, k1, i0, i1, hL, h2, hn, cs, h1, hl, hR, hat⟩ := hQ
  have hk' := of_decide_eq_false hk
  rw [show k.toNat = cs.length by omega] at hat
  subst hat
  have s2 : lastAt cs (a.TH i.toNat) cs.length ≠ -1 := by simpa using h1'
  have h5 : a.BG i.toNat = false := by have := eq_of_beq h0; rw [this]; simpa using h1'
  obtain ⟨g1, g2, _⟩ := lastAt_lt s2
  have hpl : p < cs.length := by omega
  rw [hR.k p hpl, hR.key p hpl, hR.val p hpl, hR.lev p hpl] at h6
  refine hr_none i0 i1 h1 ?_
  simp only [seeC, HEA.at, h2, h5, s2, ← hp, badOp, h6]
  simp
theorem hr_b4 {a : HEA} {i : Int} {CT CA CK CY CV CL CF CO CE : Nat → Int} {CD : Nat → Bool} {CW : Nat → Int} {n : Nat} {at_ k : Int} (hQ : hiP a i CT CA CK CY CV CL CF CO CE CD CW n at_ k) (hk : decide (k < (n : Int)) = false) (h0 : (a.BG i.toNat == (at_ == -1)) = true) (h1' : (at_ == -1) = false) {p : Nat} (hp : p = at_.toNat) (h6 : (CK p == a.K i.toNat && (CY p == a.KY i.toNat && (CV p == a.VL i.toNat && (CL p == a.LV i.toNat && true)))) = true) (h7 : (CA p != a.AT i.toNat) = true) : a.res = none := by
  obtain ⟨k0, k1, i0, i1, hL, h2, hn, cs, h1, hl, hR, hat⟩ := hQ
  have hk' := of_decide_eq_false hk
  rw [show k.toNat = cs.length by omega] at hat
  subst hat
  have s2 : lastAt cs (a.TH i.toNat) cs.length ≠ -1 := by simpa using h1'
  have h5 : a.BG i.toNat = false := by have := eq_of_beq h0; rw [this]; simpa using h1'
  obtain ⟨g1, g2, _⟩ := lastAt_lt s2
  have hpl : p < cs.length := by omega
  rw [hR.k p hpl, hR.key p hpl, hR.val p hpl, hR.lev p hpl] at h6
  rw [hR.at_ p hpl] at h7
  refine hr_none i0 i1 h1 ?_
  simp only [seeC, HEA.at, h2, h5, s2, ← hp, badOp, h6, h7]
  simp
theorem hr_b5 {a : HEA} {i : Int} {CT CA CK CY CV CL CF CO CE : Nat → Int} {CD : Nat → Bool} {CW : Nat → Int} {n : Nat} {at_ k : Int} (hQ : hiP a i CT CA CK CY CV CL CF CO CE CD CW n at_ k) (hk : decide (k < (n : Int)) = false) (h0 : (a.BG i.toNat == (at_ == -1)) = true) (h1' : (at_ == -1) = false) {p : Nat} (hp : p = at_.toNat) (h6 : (CK p == a.K i.toNat && (CY p == a.KY i.toNat && (CV p == a.VL i.toNat && (CL p == a.LV i.toNat && true)))) = true) (h7 : (CA p != a.AT i.toNat) = false) (h9 : a.OV i.toNat = false) (h10 : (a.ER i.toNat == 0 && (a.DN i.toNat == false && (a.AV i.toNat == 0 && true))) = false) : a.res = none := by
  obtain ⟨k0, k1, i0, i1, hL, h2, hn, cs, h1, hl, hR, hat⟩ := hQ
  have hk' := of_decide_eq_false hk
  rw [show k.toNat = cs.length by omega] at hat
  subst hat
  have s2 : lastAt cs (a.TH i.toNat) cs.length ≠ -1 := by simpa using h1'
  have h5 : a.BG i.toNat = false := by have := eq_of_beq h0; rw [this]; simpa using h1'
  obtain ⟨g1, g2, _⟩ := lastAt_lt s2
  have hpl : p < cs.length := by omega
  rw [hR.k p hpl, hR.key p hpl, hR.val p hpl, hR.lev p hpl] at h6
  rw [hR.at_ p hpl] at h7
  refine hr_none i0 i1 h1 ?_
  have h15' : noAns (a.ER i.toNat) (a.DN i.toNat) (a.AV i.toNat) = false := h10
  simp only [seeC, HEA.at, h2, h5, s2, ← hp, badOp, h6, h7, h9, h15']
  simp
theorem hr_bad {a : HEA} (h : a.res = none) : Tri repAt Try.prog hrZ 1 (.out .ret) [] ⟨[(2, .v (.slice none 0 0)), (3, .v (.bool false))], [(0, hrTab a)], 1⟩ (hrQ a) := by
  refine Tri.fin ⟨.inl rfl, [.v (.slice none 0 0), .v (.bool false)], ⟨[(0, hrTab a)], 1, [], [], [], []⟩, by kernel_rfl, ?_⟩
  show (match a.res with | some cs => _ | none => _)
  rw [h]
  exact ⟨rfl, rfl⟩
theorem hr_fin {a : HEA} {i : Int} {CT CA CK CY CV CL CF CO CE : Nat → Int} {CD : Nat → Bool} {CW : Nat → Int} {n : Nat} (hP : hrP a i CT CA CK CY CV CL CF CO CE CD CW n) (h0 : decide (i < (a.len : Int)) = false) : Tri repAt Try.prog hrZ 1 (.out .ret) [] ⟨[(2, .tsl 1 n), (3, .v (.bool true))], [(0, hrTab a), (1, .rep (.vec [.int .i64 CT, .int .i64 CA, .int .i64 CK, .int .u64 CY, .int .u64 CV, .int .i64 CL, .int .i64 CF, .int .i64 CO, .int .i64 CE, .bool CD, .int .u64 CW] n 83))], 2⟩ (hrQ a) := by
  obtain ⟨i0, i1, hL, hn, cs, h1, hl, hR⟩ := hP
  have e0 := of_decide_eq_false h0
  have hi : i.toNat = a.len := by omega
  rw [hi] at h1
  subst hl
  refine Tri.view (vec_view (n := 1) (cs' := hcCols cs) rfl rfl hR.cols) (Tri.fin ⟨.inl rfl, [.tsl 1 cs.length, .v (.bool true)], ⟨[(0, hrTab a), (1, .rep (.vec (hcCols cs) cs.length 83))], 2, [], [], [], []⟩, by kernel_rfl, ?_⟩)
  show (match a.calls a.len with | some cs => _ | none => _)
  rw [h1]
  exact ⟨rfl, rfl⟩
theorem hr_get {a : HEA} {i : Int} {CT CA CK CY CV CL CF CO CE : Nat → Int} {CD : Nat → Bool} {CW : Nat → Int} {n : Nat} {at_ k : Int} (hQ : hiP a i CT CA CK CY CV CL CF CO CE CD CW n at_ k) (hk : decide (k < (n : Int)) = false) (h1' : (at_ == -1) = false) : decide (0 ≤ at_ ∧ at_ < (n : Int) ∧ n ≤ n) = true := by
  obtain ⟨k0, k1, i0, i1, hL, h2, hn, cs, h1, hl, hR, hat⟩ := hQ
  have hk' := of_decide_eq_false hk
  rw [show k.toNat = cs.length by omega] at hat
  subst hat
  have s2 : lastAt cs (a.TH i.toNat) cs.length ≠ -1 := by simpa using h1'
  obtain ⟨g1, g2, _⟩ := lastAt_lt s2
  exact decide_eq_true ⟨g1, by omega, Nat.le_refl _⟩
theorem hr_app {a : HEA} {i : Int} {CT CA CK CY CV CL CF CO CE : Nat → Int} {CD : Nat → Bool} {CW : Nat → Int} {n : Nat} {at_ k : Int} (hQ : hiP a i CT CA CK CY CV CL CF CO CE CD CW n at_ k) : decide (n ≤ n ∧ (n + 1) * 88 ≤ 140737488351232) = true := by
  obtain ⟨k0, k1, i0, i1, hL, h2, hn, _⟩ := hQ
  exact decide_eq_true ⟨Nat.le_refl _, by omega⟩
end Go.Proofs.Ytkndpdmopgmlcaa
end
