/- HistExact, called with whatever, returns true, and its arguments read behind it as they did. No condition. -/
import Derived.Test.YtkndpdmopgmlcaaG7
import Derived.Test.YtkndpdmopgmlcaaG1
import Derived.Laws.CopyOwn
import Derived.ArgAppend
import Derived.Tactics
import Derived.Test.YtkndpdmopgmlcaaProg
import Derived.ProofKit
import Derived.Deep.Slices
import Derived.Deep.Strs
import Derived.ChangeArms
import Derived.Carry
import Derived.Below
import Derived.WalkKit
import Derived.OpenShut
import Derived.ChangeOld
import Derived.Test.YtkndpdmopgmlcaaG3
import Derived.Test.YtkndpdmopgmlcaaRows
section
/- HistExact: the states at its loops' heads, and what it keeps. No condition. -/
namespace Go.Proofs.Ytkndpdmopgmlcaa
/-- With more calls known. -/
def Lib.moreH (l : Lib Rep) (p : FuncId → List SV → Option (M Rep SV)) : Lib Rep := ⟨fun f args => match p f args with
  | some m => some m
  | none => l.prim f args, l.ext, l.tidy⟩
theorem Lib.moreH_ok {l : Lib Rep} {p : FuncId → List SV → Option (M Rep SV)} (hl : LibOK repAt Try.prog l) (hp : ∀ f args m, p f args = some m → ∀ st s st', m st = .ok s st' → CallS repAt Try.prog f args st st' s) : LibOK repAt Try.prog (l.moreH p) := by
  refine ⟨fun f args m hm => ?_, hl.ext, hl.tidy⟩
  simp only [Lib.moreH] at hm
  split at hm
  · next m' h =>
    injection hm with hm
    subst hm
    exact hp f args m' h
  · exact hl.prim f args m hm
noncomputable abbrev primHX : FuncId → List SV → Option (M Rep SV) := primS heF heSpec (primS hrF hrSpec (fun _ _ => none))
noncomputable abbrev libHX : Lib Rep := (lib0.with (Tab.one 21 kTrue)).moreH primHX
theorem libHX_ok : LibOK repAt Try.prog libHX := Lib.moreH_ok (Lib.with_ok lib0_ok (TabOK.true awake24)) (primS_ok he_sub (primS_ok hr_sub (more := fun _ _ => none) (fun _ _ _ h => by cases h)))
noncomputable abbrev hlF : FuncId := 4
noncomputable abbrev hlZ : Nat := slotsOf Try.prog hlF
noncomputable def hlL : Code × List Fr := loopOf Try.prog hlF 0
noncomputable def hlM : Code × List Fr := loopOf Try.prog hlF 1
abbrev hlQ : Ex → Sym Rep → Prop := Ends Try.prog Try.f4 fun l _ => l = [.v (.bool true)]
def HEA.bare (a : HEA) : HEA := ⟨fun _ => 0, a.TH, a.ID, a.K, a.KY, a.VL, a.LV, a.AT, a.BG, a.OV, a.ER, a.DN, a.AV, a.len⟩
theorem HEA.calls_bare (a : HEA) : ∀ n, a.bare.calls n = a.calls n
  | 0 => rfl
  | n + 1 => by
    simp only [HEA.calls, HEA.calls_bare a n]
    rfl
theorem HEA.res_bare (a : HEA) : a.bare.res = a.res := a.calls_bare a.len
theorem HEA.got_bare (a : HEA) : a.bare.got = a.got := by unfold HEA.got; rw [a.res_bare]
def hlS (a : HEA) (i : Int) (UT : Nat → Int) (UI : Nat → Bool) (UK UY UV UL UA : Nat → Int) (UB UO : Nat → Bool) (UE : Nat → Int) (UD : Nat → Bool) (UW : Nat → Int) (n : Nat) : Sym Rep :=
  ⟨[(0, .tsl 0 a.len), (3, .tsl 1 n), (4, iv i)], [(0, heTab a), (1, .rep (.vec [.int .i64 UT, .bool UI, .int .i64 UK, .int .u64 UY, .int .u64 UV, .int .i64 UL, .int .i64 UA, .bool UB, .bool UO, .int .i64 UE, .bool UD, .int .u64 UW] n 75))], 2⟩
def hlCfg : Stop → List Gen × List Nat
  | .fin .ret _ => ([], [2])
  | _ => ([], [0, 3, 4])
def hlCfg0 : Stop → List Gen × List Nat
  | .fin .ret _ => ([], [2])
  | _ => ([.row 1 0 [.int .i64, .bool, .int .i64, .int .u64, .int .u64, .int .i64, .int .i64, .bool, .bool, .int .i64, .bool, .int .u64]], [0, 3, 4])
/-- Both sides' calls, gone through. -/
def hcS (a : HEA) (i : Int) : Sym Rep :=
  ⟨[(8, .tsl 0 a.bare.got.length), (6, .tsl 1 a.got.length), (10, iv i)], [(0, .rep (.vec (hcCols a.bare.got) a.bare.got.length 83)), (1, .rep (.vec (hcCols a.got) a.got.length 85))], 2⟩
def hcCfg : Stop → List Gen × List Nat
  | .fin .ret _ => ([], [2])
  | _ => ([], [8, 6, 10])
def hcP (a : HEA) (i : Int) : Prop := 0 ≤ i ∧ i ≤ (a.got.length : Int) ∧ a.got.length ≤ 200
theorem seeC_len {cs ds : List HC} {x : HE} {i : Int} (h : seeC cs x i = some ds) : ds.length ≤ cs.length + 1 := by
  unfold seeC at h
  repeat' split at h
  all_goals first
    | cases h; done
    | (injection h with h; subst h; simp)
theorem HEA.calls_len {a : HEA} : ∀ {n : Nat} {cs : List HC}, a.calls n = some cs → cs.length ≤ n
  | 0, cs, h => by injection h with h; subst h; simp
  | n + 1, cs, h => by
    simp only [HEA.calls] at h
    split at h
    · cases h
    · next ds hd =>
      have h1 := HEA.calls_len hd
      have h2 := seeC_len h
      omega
theorem HEA.got_len {a : HEA} : a.got.length ≤ a.len := by
  unfold HEA.got HEA.res
  cases h : a.calls a.len with
  | none => simp
  | some cs => exact HEA.calls_len h
structure URow (a : HEA) (n : Nat) (UT : Nat → Int) (UI : Nat → Bool) (UK UY UV UL UA : Nat → Int) (UB UO : Nat → Bool) (UE : Nat → Int) (UD : Nat → Bool) (UW : Nat → Int) : Prop where
  u0 : ∀ j, j < n → UT j = a.TH j
  u1 : ∀ j, j < n → UI j = a.ID j
  u2 : ∀ j, j < n → UK j = a.K j
  u3 : ∀ j, j < n → UY j = a.KY j
  u4 : ∀ j, j < n → UV j = a.VL j
  u5 : ∀ j, j < n → UL j = a.LV j
  u6 : ∀ j, j < n → UA j = a.AT j
  u7 : ∀ j, j < n → UB j = a.BG j
  u8 : ∀ j, j < n → UO j = a.OV j
  u9 : ∀ j, j < n → UE j = a.ER j
  u10 : ∀ j, j < n → UD j = a.DN j
  u11 : ∀ j, j < n → UW j = a.AV j
theorem URow.push {a : HEA} {n : Nat} {UT : Nat → Int} {UI : Nat → Bool} {UK UY UV UL UA : Nat → Int} {UB UO : Nat → Bool} {UE : Nat → Int} {UD : Nat → Bool} {UW : Nat → Int} (h : URow a n UT UI UK UY UV UL UA UB UO UE UD UW) {m : Nat} (hm : m = n) : URow a (n + 1) (joinI UT m fun _ => a.TH m) (joinI UI m fun _ => a.ID m) (joinI UK m fun _ => a.K m) (joinI UY m fun _ => a.KY m) (joinI UV m fun _ => a.VL m) (joinI UL m fun _ => a.LV m) (joinI UA m fun _ => a.AT m) (joinI UB m fun _ => a.BG m) (joinI UO m fun _ => a.OV m) (joinI UE m fun _ => a.ER m) (joinI UD m fun _ => a.DN m) (joinI UW m fun _ => a.AV m) := by
  subst hm
  constructor
  · intro j hj
    rcases Nat.lt_or_ge j m with g | g
    · rw [joinI_old g, h.u0 j g]
    · obtain rfl : j = m := by omega
      rw [joinI_new (Nat.le_refl _)]
  · intro j hj
    rcases Nat.lt_or_ge j m with g | g
    · rw [joinI_old g, h.u1 j g]
    · obtain rfl : j = m := by omega
      rw [joinI_new (Nat.le_refl _)]
  · intro j hj
    rcases Nat.lt_or_ge j m with g | g
    · rw [joinI_old g, h.u2 j g]
    · obtain rfl : j = m := by omega
      rw [joinI_new (Nat.le_refl _)]
  · intro j hj
    rcases Nat.lt_or_ge j m with g | g
    · rw [joinI_old g, h.u3 j g]
    · obtain rfl : j = m := by omega
      rw [joinI_new (Nat.le_refl _)]
  · intro j hj
    rcases Nat.lt_or_ge j m with g | g
    · rw [joinI_old g, h.u4 j g]
    · obtain rfl : j = m := by omega
      rw [joinI_new (Nat.le_refl _)]
  · intro j hj
    rcases Nat.lt_or_ge j m with g | g
    · rw [joinI_old g, h.u5 j g]
    · obtain rfl : j = m := by omega
      rw [joinI_new (Nat.le_refl _)]
  · intro j hj
    rcases Nat.lt_or_ge j m with g | g
    · rw [joinI_old g, h.u6 j g]
    · obtain rfl : j = m := by omega
      rw [joinI_new (Nat.le_refl _)]
  · intro j hj
    rcases Nat.lt_or_ge j m with g | g
    · rw [joinI_old g, h.u7 j g]
    · obtain rfl : j = m := by omega
      rw [joinI_new (Nat.le_refl _)]
  · intro j hj
    rcases Nat.lt_or_ge j m with g | g
    · rw [joinI_old g, h.u8 j g]
    · obtain rfl : j = m := by omega
      rw [joinI_new (Nat.le_refl _)]
  · intro j hj
    rcases Nat.lt_or_ge j m with g | g
    · rw [joinI_old g, h.u9 j g]
    · obtain rfl : j = m := by omega
      rw [joinI_new (Nat.le_refl _)]
  · intro j hj
    rcases Nat.lt_or_ge j m with g | g
    · rw [joinI_old g, h.u10 j g]
    · obtain rfl : j = m := by omega
      rw [joinI_new (Nat.le_refl _)]
  · intro j hj
    rcases Nat.lt_or_ge j m with g | g
    · rw [joinI_old g, h.u11 j g]
    · obtain rfl : j = m := by omega
      rw [joinI_new (Nat.le_refl _)]
theorem URow.cols {a : HEA} {n : Nat} {UT : Nat → Int} {UI : Nat → Bool} {UK UY UV UL UA : Nat → Int} {UB UO : Nat → Bool} {UE : Nat → Int} {UD : Nat → Bool} {UW : Nat → Int} (h : URow a n UT UI UK UY UV UL UA UB UO UE UD UW) (j : Nat) (hj : j < n) : colsF [.int .i64 UT, .bool UI, .int .i64 UK, .int .u64 UY, .int .u64 UV, .int .i64 UL, .int .i64 UA, .bool UB, .bool UO, .int .i64 UE, .bool UD, .int .u64 UW] j = colsF [.int .i64 a.TH, .bool a.ID, .int .i64 a.K, .int .u64 a.KY, .int .u64 a.VL, .int .i64 a.LV, .int .i64 a.AT, .bool a.BG, .bool a.OV, .int .i64 a.ER, .bool a.DN, .int .u64 a.AV] j := by
  simp only [colsF, Col.at, h.u0 j hj, h.u1 j hj, h.u2 j hj, h.u3 j hj, h.u4 j hj, h.u5 j hj, h.u6 j hj, h.u7 j hj, h.u8 j hj, h.u9 j hj, h.u10 j hj, h.u11 j hj]
def hlP (a : HEA) (i : Int) (UT : Nat → Int) (UI : Nat → Bool) (UK UY UV UL UA : Nat → Int) (UB UO : Nat → Bool) (UE : Nat → Int) (UD : Nat → Bool) (UW : Nat → Int) (n : Nat) : Prop := 0 ≤ i ∧ i ≤ (a.len : Int) ∧ a.ok ∧ n = i.toNat ∧ URow a n UT UI UK UY UV UL UA UB UO UE UD UW
theorem hl_push {a : HEA} {i : Int} {UT : Nat → Int} {UI : Nat → Bool} {UK UY UV UL UA : Nat → Int} {UB UO : Nat → Bool} {UE : Nat → Int} {UD : Nat → Bool} {UW : Nat → Int} {n : Nat} (hP : hlP a i UT UI UK UY UV UL UA UB UO UE UD UW n) (h0 : decide (i < (a.len : Int)) = true) : hlP a (IntKind.i64.wrap (i + 1)) (joinI UT n fun _ => a.TH i.toNat) (joinI UI n fun _ => a.ID i.toNat) (joinI UK n fun _ => a.K i.toNat) (joinI UY n fun _ => a.KY i.toNat) (joinI UV n fun _ => a.VL i.toNat) (joinI UL n fun _ => a.LV i.toNat) (joinI UA n fun _ => a.AT i.toNat) (joinI UB n fun _ => a.BG i.toNat) (joinI UO n fun _ => a.OV i.toNat) (joinI UE n fun _ => a.ER i.toNat) (joinI UD n fun _ => a.DN i.toNat) (joinI UW n fun _ => a.AV i.toNat) (n + 1) := by
  obtain ⟨i0, i1, hok, hn, hR⟩ := hP
  have e0 := of_decide_eq_true h0
  have hL := hok.1
  have hw : IntKind.i64.wrap (i + 1) = i + 1 := wrapI (by omega) (by omega)
  rw [hlP, hw]
  subst hn
  exact ⟨by omega, by omega, hok, by omega, hR.push rfl⟩
theorem hl_app {a : HEA} {i : Int} {UT : Nat → Int} {UI : Nat → Bool} {UK UY UV UL UA : Nat → Int} {UB UO : Nat → Bool} {UE : Nat → Int} {UD : Nat → Bool} {UW : Nat → Int} {n : Nat} (hP : hlP a i UT UI UK UY UV UL UA UB UO UE UD UW n) : decide (n ≤ n ∧ (n + 1) * 88 ≤ 140737488351232) = true := by
  obtain ⟨i0, i1, ⟨hL, _⟩, hn, hR⟩ := hP
  exact decide_eq_true ⟨Nat.le_refl _, by omega⟩
theorem hl_less {a : HEA} {i : Int} {UT : Nat → Int} {UI : Nat → Bool} {UK UY UV UL UA : Nat → Int} {UB UO : Nat → Bool} {UE : Nat → Int} {UD : Nat → Bool} {UW : Nat → Int} {n : Nat} (hP : hlP a i UT UI UK UY UV UL UA UB UO UE UD UW n) (h0 : decide (i < (a.len : Int)) = true) {r : Nat} (hr : r = a.len - i.toNat) : a.len - (IntKind.i64.wrap (i + 1)).toNat < r := by
  obtain ⟨i0, i1, ⟨hL, _⟩, _⟩ := hP
  have e0 := of_decide_eq_true h0
  rw [wrapI (by omega) (by omega)]
  omega
theorem hc_next {a : HEA} {i : Int} (hP : hcP a i) (h0 : decide (i < (a.got.length : Int)) = true) : hcP a (IntKind.i64.wrap (i + 1)) := by
  obtain ⟨i0, i1, hL⟩ := hP
  have e0 := of_decide_eq_true h0
  rw [hcP, wrapI (by omega) (by omega)]
  exact ⟨by omega, by omega, hL⟩
theorem hc_less {a : HEA} {i : Int} (hP : hcP a i) (h0 : decide (i < (a.got.length : Int)) = true) {r : Nat} (hr : r = a.got.length - i.toNat) : a.got.length - (IntKind.i64.wrap (i + 1)).toNat < r := by
  obtain ⟨i0, i1, hL⟩ := hP
  have e0 := of_decide_eq_true h0
  rw [wrapI (by omega) (by omega)]
  omega
theorem len_bare (a : HEA) : ((a.got.length : Int) != (a.bare.got.length : Int)) = false := by rw [a.got_bare]; simp
theorem res_none {a : HEA} (h : a.res.isSome = false) : a.got = [] := by
  unfold HEA.got
  cases hr : a.res with
  | none => rfl
  | some cs => rw [hr] at h; cases h
end Go.Proofs.Ytkndpdmopgmlcaa
end
section
/- HistExact: its runs from point to point. No condition. -/
namespace Go.Proofs.Ytkndpdmopgmlcaa
set_option linter.unusedVariables false
set_option linter.unusedSimpArgs false
set_option maxRecDepth 100000
set_option maxHeartbeats 8000000
def hlI (a : HEA) (r : Nat) (s : Sym Rep) : Prop := ∃ (i : Int) (UT : Nat → Int) (UI : Nat → Bool) (UK UY UV UL UA : Nat → Int) (UB UO : Nat → Bool) (UE : Nat → Int) (UD : Nat → Bool) (UW : Nat → Int) (n : Nat), s = hlS a i UT UI UK UY UV UL UA UB UO UE UD UW n ∧ hlP a i UT UI UK UY UV UL UA UB UO UE UD UW n ∧ r = a.len - i.toNat
abbrev hlR (a : HEA) (r : Nat) (x : Ex) (s : Sym Rep) : Prop := match x with
  | .nor => ∃ k', k' < r ∧ hlI a k' s
  | x => Tri repAt Try.prog hlZ 0 (.out x) hlL.2 s hlQ
theorem hl_next (a : HEA) (i : Int) (UT : Nat → Int) (UI : Nat → Bool) (UK UY UV UL UA : Nat → Int) (UB UO : Nat → Bool) (UE : Nat → Int) (UD : Nat → Bool) (UW : Nat → Int) (n : Nat) {r : Nat} (hP : hlP a i UT UI UK UY UV UL UA UB UO UE UD UW n) (hk : a.len - i.toNat < r) : Tri repAt Try.prog hlZ 0 (.out .nor) [] (hlS a i UT UI UK UY UV UL UA UB UO UE UD UW n) (hlR a r) := Tri.fin ⟨_, hk, i, UT, UI, UK, UY, UV, UL, UA, UB, UO, UE, UD, UW, n, rfl, hP, rfl⟩
def hcI (a : HEA) (r : Nat) (s : Sym Rep) : Prop := ∃ i, s = hcS a i ∧ hcP a i ∧ r = a.got.length - i.toNat
abbrev hcR (a : HEA) (r : Nat) (x : Ex) (s : Sym Rep) : Prop := match x with
  | .nor => ∃ k', k' < r ∧ hcI a k' s
  | x => Tri repAt Try.prog hlZ 0 (.out x) hlM.2 s hlQ
theorem hc_to (a : HEA) (i : Int) {r : Nat} (hP : hcP a i) (hk : a.got.length - i.toNat < r) : Tri repAt Try.prog hlZ 0 (.out .nor) [] (hcS a i) (hcR a r) := Tri.fin ⟨_, hk, i, rfl, hP, rfl⟩

theorem hc_exit (a : HEA) (i : Int)   : Tri repAt Try.prog hlZ 0 (.out (.out 2)) hlM.2 (hcS a i) (hlQ) := by
  exact Tri.pathG mixed libHX_ok (n := 10000) (k := 10000) (j := 0) (cfg := hcCfg) (o := []) (g' := .out .ret) (fs' := []) (s' := ⟨[(2, SV.v (Value.bool true))], [], 0⟩) (asks := []) (by kernel_rfl) trivial (Tri.fin (Ends.one (t := 2) (by kernel_rfl) (.inl rfl) rfl))
theorem hc_round (a : HEA) (i : Int) (hP : hcP a i) {r : Nat} (hr : r = a.got.length - i.toNat) : Tri repAt Try.prog hlZ 0 (.go hlM.1) [] (hcS a i) (hcR a r) := by
  rcases Bool.eq_false_or_eq_true (decide (i < (↑a.got.length : Int))) with h0 | h0
  · have h1 : (decide (0 ≤ i ∧ i < (↑a.got.length : Int) ∧ a.got.length ≤ a.got.length)) = true := by (first | exact decide_eq_true ⟨hP.1, of_decide_eq_true h0, Nat.le_refl _⟩ | (rw [a.got_bare]; exact decide_eq_true ⟨hP.1, of_decide_eq_true h0, Nat.le_refl _⟩) | (rw [a.got_bare]; simp))
    have h2 : (decide (0 ≤ i ∧ i < (↑a.bare.got.length : Int) ∧ a.bare.got.length ≤ a.bare.got.length)) = true := by (first | exact decide_eq_true ⟨hP.1, of_decide_eq_true h0, Nat.le_refl _⟩ | (rw [a.got_bare]; exact decide_eq_true ⟨hP.1, of_decide_eq_true h0, Nat.le_refl _⟩) | (rw [a.got_bare]; simp))
    have h3 : ((fun i => (a.got.getD i hc0).th) i.toNat == (fun i => (a.bare.got.getD i hc0).th) i.toNat && ((fun i => (a.got.getD i hc0).at_) i.toNat == (fun i => (a.bare.got.getD i hc0).at_) i.toNat && ((fun i => (a.got.getD i hc0).k) i.toNat == (fun i => (a.bare.got.getD i hc0).k) i.toNat && ((fun i => (a.got.getD i hc0).key) i.toNat == (fun i => (a.bare.got.getD i hc0).key) i.toNat && ((fun i => (a.got.getD i hc0).val) i.toNat == (fun i => (a.bare.got.getD i hc0).val) i.toNat && ((fun i => (a.got.getD i hc0).lev) i.toNat == (fun i => (a.bare.got.getD i hc0).lev) i.toNat && true))) && ((fun i => (a.got.getD i hc0).F) i.toNat == (fun i => (a.bare.got.getD i hc0).F) i.toNat && ((fun i => (a.got.getD i hc0).T) i.toNat == (fun i => (a.bare.got.getD i hc0).T) i.toNat && ((fun i => (a.got.getD i hc0).e) i.toNat == (fun i => (a.bare.got.getD i hc0).e) i.toNat && ((fun i => (a.got.getD i hc0).d) i.toNat == (fun i => (a.bare.got.getD i hc0).d) i.toNat && ((fun i => (a.got.getD i hc0).v) i.toNat == (fun i => (a.bare.got.getD i hc0).v) i.toNat && true)) && true)))))) = true := by (first | exact decide_eq_true ⟨hP.1, of_decide_eq_true h0, Nat.le_refl _⟩ | (rw [a.got_bare]; exact decide_eq_true ⟨hP.1, of_decide_eq_true h0, Nat.le_refl _⟩) | (rw [a.got_bare]; simp))
    exact Tri.pathG mixed libHX_ok (n := 10000) (k := 10000) (j := 0) (cfg := hcCfg) (o := List.replicate 3 (some true) ++ [some false]) (g' := .out .nor) (fs' := []) (s' := hcS (a) (IntKind.i64.wrap (i + 1))) (asks := [(!((fun i => (a.got.getD i hc0).th) i.toNat == (fun i => (a.bare.got.getD i hc0).th) i.toNat && ((fun i => (a.got.getD i hc0).at_) i.toNat == (fun i => (a.bare.got.getD i hc0).at_) i.toNat && ((fun i => (a.got.getD i hc0).k) i.toNat == (fun i => (a.bare.got.getD i hc0).k) i.toNat && ((fun i => (a.got.getD i hc0).key) i.toNat == (fun i => (a.bare.got.getD i hc0).key) i.toNat && ((fun i => (a.got.getD i hc0).val) i.toNat == (fun i => (a.bare.got.getD i hc0).val) i.toNat && ((fun i => (a.got.getD i hc0).lev) i.toNat == (fun i => (a.bare.got.getD i hc0).lev) i.toNat && true))) && ((fun i => (a.got.getD i hc0).F) i.toNat == (fun i => (a.bare.got.getD i hc0).F) i.toNat && ((fun i => (a.got.getD i hc0).T) i.toNat == (fun i => (a.bare.got.getD i hc0).T) i.toNat && ((fun i => (a.got.getD i hc0).e) i.toNat == (fun i => (a.bare.got.getD i hc0).e) i.toNat && ((fun i => (a.got.getD i hc0).d) i.toNat == (fun i => (a.bare.got.getD i hc0).d) i.toNat && ((fun i => (a.got.getD i hc0).v) i.toNat == (fun i => (a.bare.got.getD i hc0).v) i.toNat && true)) && true)))))), false), ((decide (0 ≤ i ∧ i < (↑a.bare.got.length : Int) ∧ a.bare.got.length ≤ a.bare.got.length)), true), ((decide (0 ≤ i ∧ i < (↑a.got.length : Int) ∧ a.got.length ≤ a.got.length)), true), ((decide (i < (↑a.got.length : Int))), true)]) (by kernel_rfl) ⟨(by rw [h3]; rfl), h2, h1, h0, trivial⟩ (hc_to (a) (IntKind.i64.wrap (i + 1)) (hc_next hP h0) (hc_less hP h0 hr))
  · exact Tri.pathG mixed libHX_ok (n := 10000) (k := 10000) (j := 0) (cfg := hcCfg) (o := [some false]) (g' := .out (.out 2)) (fs' := []) (s' := hcS (a) (i)) (asks := [((decide (i < (↑a.got.length : Int))), false)]) (by kernel_rfl) ⟨h0, trivial⟩ (Tri.fin (hc_exit (a) (i)))
theorem hc_loop (a : HEA) (i : Int) (hP : hcP a i) : Tri repAt Try.prog hlZ 0 (.go (.loop hlM.1)) hlM.2 (hcS a i) hlQ := by
  refine Tri.loop (I := hcI a) (fun k s h => ?_) ⟨_, rfl, hP, rfl⟩
  obtain ⟨i, rfl, hP, hk⟩ := h
  exact hc_round a i hP hk
theorem hl_end (a : HEA) (i : Int) (hok : a.ok)  : Tri repAt Try.prog hlZ 0 (.out (.out 0)) hlL.2 (hlS a i a.TH a.ID a.K a.KY a.VL a.LV a.AT a.BG a.OV a.ER a.DN a.AV a.len) (hlQ) := by
  have h0 : (a.len.beq a.len) = true := by (first | exact Nat.beq_refl _ | (rw [Nat.beq_refl]; rfl) | exact asB_true hok | exact Nat.ble_eq_true_of_le hok.1 | (exact (congrArg Option.isSome a.res_bare).trans (by assumption)) | exact len_bare a)
  have h1 : (asB a.ok) = true := by (first | exact Nat.beq_refl _ | (rw [Nat.beq_refl]; rfl) | exact asB_true hok | exact Nat.ble_eq_true_of_le hok.1 | (exact (congrArg Option.isSome a.res_bare).trans (by assumption)) | exact len_bare a)
  rcases Bool.eq_false_or_eq_true (a.res.isSome) with h2 | h2
  · have h3 : (a.len.beq a.len && Nat.beq 75 75) = true := by (first | exact Nat.beq_refl _ | (rw [Nat.beq_refl]; rfl) | exact asB_true hok | exact Nat.ble_eq_true_of_le hok.1 | (exact (congrArg Option.isSome a.res_bare).trans (by assumption)) | exact len_bare a)
    have h4 : (a.len.ble 200) = true := by (first | exact Nat.beq_refl _ | (rw [Nat.beq_refl]; rfl) | exact asB_true hok | exact Nat.ble_eq_true_of_le hok.1 | (exact (congrArg Option.isSome a.res_bare).trans (by assumption)) | exact len_bare a)
    have h5 : (a.bare.res.isSome) = true := by (first | exact Nat.beq_refl _ | (rw [Nat.beq_refl]; rfl) | exact asB_true hok | exact Nat.ble_eq_true_of_le hok.1 | (exact (congrArg Option.isSome a.res_bare).trans (by assumption)) | exact len_bare a)
    have h6 : ((↑a.got.length : Int) != (↑a.bare.got.length : Int)) = false := by (first | exact Nat.beq_refl _ | (rw [Nat.beq_refl]; rfl) | exact asB_true hok | exact Nat.ble_eq_true_of_le hok.1 | (exact (congrArg Option.isSome a.res_bare).trans (by assumption)) | exact len_bare a)
    exact Tri.pathG mixed libHX_ok (n := 10000) (k := 10000) (j := 0) (cfg := hcCfg) (o := List.replicate 6 (some true) ++ List.replicate 7 (none) ++ [some false]) (g' := .go (.loop hlM.1)) (fs' := hlM.2) (s' := hcS (a) (Int.ofNat 0)) (asks := [(((↑a.got.length : Int) != (↑a.bare.got.length : Int)), false), ((a.bare.res.isSome), true), ((a.len.ble 200), true), ((a.len.beq a.len && Nat.beq 75 75), true), ((a.res.isSome), true), ((asB a.ok), true), ((a.len.beq a.len), true)]) (by kernel_rfl) ⟨h6, h5, h4, h3, h2, h1, h0, trivial⟩ (hc_loop (a) (Int.ofNat 0) ⟨by decide, Int.natCast_nonneg _, Nat.le_trans a.got_len hok.1⟩)
  · have h3 : (a.len.beq a.len && Nat.beq 75 75) = true := by (first | exact Nat.beq_refl _ | (rw [Nat.beq_refl]; rfl) | exact asB_true hok | exact Nat.ble_eq_true_of_le hok.1 | (exact (congrArg Option.isSome a.res_bare).trans (by assumption)) | exact len_bare a)
    have h4 : (a.len.ble 200) = true := by (first | exact Nat.beq_refl _ | (rw [Nat.beq_refl]; rfl) | exact asB_true hok | exact Nat.ble_eq_true_of_le hok.1 | (exact (congrArg Option.isSome a.res_bare).trans (by assumption)) | exact len_bare a)
    have h5 : (a.bare.res.isSome) = false := by (first | exact Nat.beq_refl _ | (rw [Nat.beq_refl]; rfl) | exact asB_true hok | exact Nat.ble_eq_true_of_le hok.1 | (exact (congrArg Option.isSome a.res_bare).trans (by assumption)) | exact len_bare a)
    exact Tri.pathG mixed libHX_ok (n := 10000) (k := 10000) (j := 0) (cfg := hcCfg) (o := [some true, some true] ++ [some false] ++ [some true, some true] ++ [some false]) (g' := .out .ret) (fs' := []) (s' := ⟨[(2, SV.v (Value.bool true))], [], 0⟩) (asks := [((a.bare.res.isSome), false), ((a.len.ble 200), true), ((a.len.beq a.len && Nat.beq 75 75), true), ((a.res.isSome), false), ((asB a.ok), true), ((a.len.beq a.len), true)]) (by kernel_rfl) ⟨h5, h4, h3, h2, h1, h0, trivial⟩ (Tri.fin (Ends.one (t := 2) (by kernel_rfl) (.inl rfl) rfl))
theorem hl_exit (a : HEA) (i : Int) (UT : Nat → Int) (UI : Nat → Bool) (UK UY UV UL UA : Nat → Int) (UB UO : Nat → Bool) (UE : Nat → Int) (UD : Nat → Bool) (UW : Nat → Int) (n : Nat) (hP : hlP a i UT UI UK UY UV UL UA UB UO UE UD UW n) (h : decide (i < (a.len : Int)) = false) : Tri repAt Try.prog hlZ 0 (.out (.out 0)) hlL.2 (hlS a i UT UI UK UY UV UL UA UB UO UE UD UW n) hlQ := by
  obtain ⟨i0, i1, hok, hn, hR⟩ := hP
  have e0 := of_decide_eq_false h
  have hl : n = a.len := by omega
  subst hl
  exact Tri.view (vec_view (n := 1) (cs' := [.int .i64 a.TH, .bool a.ID, .int .i64 a.K, .int .u64 a.KY, .int .u64 a.VL, .int .i64 a.LV, .int .i64 a.AT, .bool a.BG, .bool a.OV, .int .i64 a.ER, .bool a.DN, .int .u64 a.AV]) rfl rfl hR.cols) (hl_end a i hok)
theorem hl_round (a : HEA) (i : Int) (UT : Nat → Int) (UI : Nat → Bool) (UK UY UV UL UA : Nat → Int) (UB UO : Nat → Bool) (UE : Nat → Int) (UD : Nat → Bool) (UW : Nat → Int) (n : Nat) (hP : hlP a i UT UI UK UY UV UL UA UB UO UE UD UW n) {r : Nat} (hr : r = a.len - i.toNat) : Tri repAt Try.prog hlZ 0 (.go hlL.1) [] (hlS a i UT UI UK UY UV UL UA UB UO UE UD UW n) (hlR a r) := by
  rcases Bool.eq_false_or_eq_true (decide (i < (↑a.len : Int))) with h0 | h0
  · have h1 : (decide (0 ≤ i ∧ i < (↑a.len : Int) ∧ a.len ≤ a.len)) = true := by (first | exact decide_eq_true ⟨hP.1, of_decide_eq_true h0, Nat.le_refl _⟩ | (show decide (n ≤ n ∧ _ * _ ≤ 140737488351232) = true; refine Eq.trans (b := decide (n ≤ n ∧ (n + 1) * 88 ≤ 140737488351232)) (by kernel_rfl) (hl_app hP)))
    have h2 : (decide (n ≤ n ∧ (n + (1, List.map constC ((fun l => (Col.int IntKind.i64 a.TH).at i.toNat :: l) ((fun l => (Col.bool a.ID).at i.toNat :: l) ((fun l => (Col.int IntKind.i64 a.K).at i.toNat :: l) ((fun l => (Col.int IntKind.u64 a.KY).at i.toNat :: l) ((fun l => (Col.int IntKind.u64 a.VL).at i.toNat :: l) ((fun l => (Col.int IntKind.i64 a.LV).at i.toNat :: l) ((fun l => (Col.int IntKind.i64 a.AT).at i.toNat :: l) ((fun l => (Col.bool a.BG).at i.toNat :: l) ((fun l => (Col.bool a.OV).at i.toNat :: l) ((fun l => (Col.int IntKind.i64 a.ER).at i.toNat :: l) ((fun l => (Col.bool a.DN).at i.toNat :: l) ((fun l => (Col.int IntKind.u64 a.AV).at i.toNat :: l) []))))))))))))).fst) * Try.prog.types[75].bytes ≤ 140737488351232)) = true := by (first | exact decide_eq_true ⟨hP.1, of_decide_eq_true h0, Nat.le_refl _⟩ | (show decide (n ≤ n ∧ _ * _ ≤ 140737488351232) = true; refine Eq.trans (b := decide (n ≤ n ∧ (n + 1) * 88 ≤ 140737488351232)) (by kernel_rfl) (hl_app hP)))
    exact Tri.pathG mixed libHX_ok (n := 10000) (k := 10000) (j := 0) (cfg := hlCfg) (o := List.replicate 3 (some true)) (g' := .out .nor) (fs' := []) (s' := hlS (a) (IntKind.i64.wrap (i + 1)) (joinI UT n fun x => a.TH i.toNat) (joinI UI n fun x => a.ID i.toNat) (joinI UK n fun x => a.K i.toNat) (joinI UY n fun x => a.KY i.toNat) (joinI UV n fun x => a.VL i.toNat) (joinI UL n fun x => a.LV i.toNat) (joinI UA n fun x => a.AT i.toNat) (joinI UB n fun x => a.BG i.toNat) (joinI UO n fun x => a.OV i.toNat) (joinI UE n fun x => a.ER i.toNat) (joinI UD n fun x => a.DN i.toNat) (joinI UW n fun x => a.AV i.toNat) (n + (1, List.map constC ((fun l => (Col.int IntKind.i64 a.TH).at i.toNat :: l) ((fun l => (Col.bool a.ID).at i.toNat :: l) ((fun l => (Col.int IntKind.i64 a.K).at i.toNat :: l) ((fun l => (Col.int IntKind.u64 a.KY).at i.toNat :: l) ((fun l => (Col.int IntKind.u64 a.VL).at i.toNat :: l) ((fun l => (Col.int IntKind.i64 a.LV).at i.toNat :: l) ((fun l => (Col.int IntKind.i64 a.AT).at i.toNat :: l) ((fun l => (Col.bool a.BG).at i.toNat :: l) ((fun l => (Col.bool a.OV).at i.toNat :: l) ((fun l => (Col.int IntKind.i64 a.ER).at i.toNat :: l) ((fun l => (Col.bool a.DN).at i.toNat :: l) ((fun l => (Col.int IntKind.u64 a.AV).at i.toNat :: l) []))))))))))))).fst)) (asks := [((decide (n ≤ n ∧ (n + (1, List.map constC ((fun l => (Col.int IntKind.i64 a.TH).at i.toNat :: l) ((fun l => (Col.bool a.ID).at i.toNat :: l) ((fun l => (Col.int IntKind.i64 a.K).at i.toNat :: l) ((fun l => (Col.int IntKind.u64 a.KY).at i.toNat :: l) ((fun l => (Col.int IntKind.u64 a.VL).at i.toNat :: l) ((fun l => (Col.int IntKind.i64 a.LV).at i.toNat :: l) ((fun l => (Col.int IntKind.i64 a.AT).at i.toNat :: l) ((fun l => (Col.bool a.BG).at i.toNat :: l) ((fun l => (Col.bool a.OV).at i.toNat :: l) ((fun l => (Col.int IntKind.i64 a.ER).at i.toNat :: l) ((fun l => (Col.bool a.DN).at i.toNat :: l) ((fun l => (Col.int IntKind.u64 a.AV).at i.toNat :: l) []))))))))))))).fst) * Try.prog.types[75].bytes ≤ 140737488351232)), true), ((decide (0 ≤ i ∧ i < (↑a.len : Int) ∧ a.len ≤ a.len)), true), ((decide (i < (↑a.len : Int))), true)]) (by kernel_rfl) ⟨h2, h1, h0, trivial⟩ (hl_next (a) (IntKind.i64.wrap (i + 1)) (joinI UT n fun x => a.TH i.toNat) (joinI UI n fun x => a.ID i.toNat) (joinI UK n fun x => a.K i.toNat) (joinI UY n fun x => a.KY i.toNat) (joinI UV n fun x => a.VL i.toNat) (joinI UL n fun x => a.LV i.toNat) (joinI UA n fun x => a.AT i.toNat) (joinI UB n fun x => a.BG i.toNat) (joinI UO n fun x => a.OV i.toNat) (joinI UE n fun x => a.ER i.toNat) (joinI UD n fun x => a.DN i.toNat) (joinI UW n fun x => a.AV i.toNat) (n + (1, List.map constC ((fun l => (Col.int IntKind.i64 a.TH).at i.toNat :: l) ((fun l => (Col.bool a.ID).at i.toNat :: l) ((fun l => (Col.int IntKind.i64 a.K).at i.toNat :: l) ((fun l => (Col.int IntKind.u64 a.KY).at i.toNat :: l) ((fun l => (Col.int IntKind.u64 a.VL).at i.toNat :: l) ((fun l => (Col.int IntKind.i64 a.LV).at i.toNat :: l) ((fun l => (Col.int IntKind.i64 a.AT).at i.toNat :: l) ((fun l => (Col.bool a.BG).at i.toNat :: l) ((fun l => (Col.bool a.OV).at i.toNat :: l) ((fun l => (Col.int IntKind.i64 a.ER).at i.toNat :: l) ((fun l => (Col.bool a.DN).at i.toNat :: l) ((fun l => (Col.int IntKind.u64 a.AV).at i.toNat :: l) []))))))))))))).fst) (hl_push hP h0) (hl_less hP h0 hr))
  · exact Tri.pathG mixed libHX_ok (n := 10000) (k := 10000) (j := 0) (cfg := hlCfg) (o := [some false]) (g' := .out (.out 0)) (fs' := []) (s' := hlS (a) (i) (UT) (UI) (UK) (UY) (UV) (UL) (UA) (UB) (UO) (UE) (UD) (UW) (n)) (asks := [((decide (i < (↑a.len : Int))), false)]) (by kernel_rfl) ⟨h0, trivial⟩ (Tri.fin (hl_exit (a) (i) (UT) (UI) (UK) (UY) (UV) (UL) (UA) (UB) (UO) (UE) (UD) (UW) (n) hP h0))
theorem hl_loop (a : HEA) (i : Int) (UT : Nat → Int) (UI : Nat → Bool) (UK UY UV UL UA : Nat → Int) (UB UO : Nat → Bool) (UE : Nat → Int) (UD : Nat → Bool) (UW : Nat → Int) (n : Nat) (hP : hlP a i UT UI UK UY UV UL UA UB UO UE UD UW n) : Tri repAt Try.prog hlZ 0 (.go (.loop hlL.1)) hlL.2 (hlS a i UT UI UK UY UV UL UA UB UO UE UD UW n) hlQ := by
  refine Tri.loop (I := hlI a) (fun k s h => ?_) ⟨_, _, _, _, _, _, _, _, _, _, _, _, _, _, rfl, hP, rfl⟩
  obtain ⟨i, UT, UI, UK, UY, UV, UL, UA, UB, UO, UE, UD, UW, n, rfl, hP, hk⟩ := h
  exact hl_round a i UT UI UK UY UV UL UA UB UO UE UD UW n hP hk
theorem hl_start (a : HEA) (hwf : ∀ j, j < a.len → (Lit.int .i64 (a.TH j)).wf = true)  : Tri repAt Try.prog hlZ 0 (.go (bodyOf Try.prog hlF)) [] (⟨argsE [.tsl 0 a.len], [(0, heTab a)], 1⟩) (hlQ) := by
  rcases Bool.eq_false_or_eq_true (decide ((↑a.len : Int) > 200)) with h0 | h0
  · exact Tri.pathG mixed libHX_ok (n := 10000) (k := 10000) (j := 0) (cfg := hlCfg0) (o := [none] ++ [some true]) (g' := .out .ret) (fs' := []) (s' := ⟨[(2, SV.v (Value.bool true))], [], 0⟩) (asks := [((decide ((↑a.len : Int) > 200)), true)]) (by kernel_rfl) ⟨h0, trivial⟩ (Tri.fin (Ends.one (t := 2) (by kernel_rfl) (.inl rfl) rfl))
  · exact Tri.pathG mixed libHX_ok (n := 10000) (k := 10000) (j := 0) (cfg := hlCfg0) (o := [none] ++ [some false]) (g' := .go (.loop hlL.1)) (fs' := hlL.2) (s' := hlS (a) (Int.ofNat 0) (fun i => [].getD i 0) (fun i => [].getD i false) (fun i => [].getD i 0) (fun i => [].getD i 0) (fun i => [].getD i 0) (fun i => [].getD i 0) (fun i => [].getD i 0) (fun i => [].getD i false) (fun i => [].getD i false) (fun i => [].getD i 0) (fun i => [].getD i false) (fun i => [].getD i 0) (0)) (asks := [((decide ((↑a.len : Int) > 200)), false)]) (by kernel_rfl) ⟨h0, trivial⟩ (hl_loop (a) (Int.ofNat 0) (fun i => [].getD i 0) (fun i => [].getD i false) (fun i => [].getD i 0) (fun i => [].getD i 0) (fun i => [].getD i 0) (fun i => [].getD i 0) (fun i => [].getD i 0) (fun i => [].getD i false) (fun i => [].getD i false) (fun i => [].getD i 0) (fun i => [].getD i false) (fun i => [].getD i 0) (0) ⟨by decide, Int.natCast_nonneg _, ⟨(by have := of_decide_eq_false h0; omega), hwf⟩, rfl, ⟨fun j hj => absurd hj (Nat.not_lt_zero _), fun j hj => absurd hj (Nat.not_lt_zero _), fun j hj => absurd hj (Nat.not_lt_zero _), fun j hj => absurd hj (Nat.not_lt_zero _), fun j hj => absurd hj (Nat.not_lt_zero _), fun j hj => absurd hj (Nat.not_lt_zero _), fun j hj => absurd hj (Nat.not_lt_zero _), fun j hj => absurd hj (Nat.not_lt_zero _), fun j hj => absurd hj (Nat.not_lt_zero _), fun j hj => absurd hj (Nat.not_lt_zero _), fun j hj => absurd hj (Nat.not_lt_zero _), fun j hj => absurd hj (Nat.not_lt_zero _)⟩⟩)
end Go.Proofs.Ytkndpdmopgmlcaa
end
section
/- Laws on slices of structs that a call made itself: copy out of such a slice into a row. No condition. -/
namespace Go.Proofs.Ytkndpdmopgmlcaa
open Go.RowKit

section
variable {P : Program}
theorem run_copy_owned (w : World) (dT sT ty elem : TypeId) (g dLen dCap : Nat) (v : Value) (n sz base : Nat) (e : TypeId) (xs cur : List Value) (t : TypeId)
    (hown : w.ownsRow base e sz v n xs) (hu : P.underlying dT = some (.slice elem)) (hs : (P.info? elem).map (·.size) = some sz)
    (hg : Blk w g t cur) (hn : n ≤ dLen) (hfit : xs.length ≤ cur.length) (h1 : ∀ u ∈ xs, u.oneCell' = true) :
    ∃ w', (Builtin.copy_ #[dT, sT] ty #[.slice (some ⟨g, 0, none⟩) dLen dCap, v]).run P w = .ok (goInt n) w' ∧ Blk w' g t (xs ++ cur.drop xs.length) ∧ w.grownBy w' (some g) := by
  cases hq : P.info? elem with
  | none => simp [hq] at hs
  | some i =>
    have hi : i.size = sz := by simpa [hq] using hs
    rcases hown.2 with ⟨rfl, rfl⟩ | ⟨g', cap, cur', rfl, _, hg', hnc, _, hsz, htake⟩
    · have hx : xs = [] := List.eq_nil_of_length_eq_zero (by simpa using hown.1)
      subst hx
      refine ⟨w, ?_, by simpa using hg, World.grownBy.refl _ _⟩
      simp [Builtin.copy_, run_underlying hu, Builtin.lenOf, Builtin.firstCells, sizeOf, typeInfo, hq, storeCells]
    · have hl := run_loadCells_list (P := P) w ⟨g', 0, none⟩ xs (hown.cells (g := g') rfl)
      have hst := run_storeCells_at P g 0 t xs 0 cur.toArray w hg (by simpa using hfit) h1
      refine ⟨_, ?_, setRow_heap w g _ _ t _ hg, ?_⟩
      · have hmin : Nat.min n dLen = n := Nat.min_eq_left hn
        have hlen := hown.1
        simp [Builtin.copy_, run_underlying hu, Builtin.lenOf, Builtin.firstCells, sizeOf, typeInfo, hq, hi, hmin, ← hlen, hl, hst]
      · exact ⟨rfl, rfl, rfl, by simp, fun k _ hk => setRow_other w g k _ (fun e => hk (by rw [e]))⟩

theorem wpList_copy_owned {w : World} {ops : Array Oper} {rest : List Oper} {o : Oper} {a : Act} {Q : Exit → Act → World → Prop} (hgd : o.guard = none) (d s : Operand) (dT sT : TypeId)
    (ho : o.op = .call { callee := .builtin .copy, args := #[d, s], argTypes := #[dT, sT] }) (elem : TypeId) (hu : P.underlying dT = some (.slice elem)) (sz : Nat) (hs : (P.info? elem).map (·.size) = some sz)
    (g dLen dCap : Nat) (v : Value) (hd : a.eval d = .slice (some ⟨g, 0, none⟩) dLen dCap) (hv : a.eval s = v) (n base : Nat) (e : TypeId) (xs cur : List Value) (t : TypeId)
    (hown : w.ownsRow base e sz v n xs) (hg : Blk w g t cur) (hn : n ≤ dLen) (hfit : xs.length ≤ cur.length) (h1 : ∀ u ∈ xs, u.oneCell' = true)
    (h : ∀ w', Blk w' g t (xs ++ cur.drop xs.length) → w.grownBy w' (some g) → wpList P ops Q rest (a.put o.dst (goInt n)) w') : wpList P ops Q (o :: rest) a w := by
  refine wpList_plain hgd fun K hK => ?_
  obtain ⟨w', hrun, hb, hgr⟩ := run_copy_owned (P := P) w dT sT o.type elem g dLen dCap v n sz base e xs cur t hown hu hs hg hn hfit h1
  unfold Oper.wp
  simp [execOp, ho, resolve, invoke, builtin, hd, hv, hrun, Result.andThen]
  exact hK _ _ (h w' hb hgr)
end

theorem Blk.of_own {w : World} {base e sz g n : Nat} {xs : List Value} (h : w.ownsRow base e sz (.slice (some ⟨g, 0, none⟩) n n) n xs) : Blk w g e xs ∧ base ≤ g := by
  rcases h.2 with ⟨h0, _⟩ | ⟨g', cap, cur, hv, hb, hg, _, _, hs, ht⟩
  · cases h0
  · injection hv with h1 _ h3
    injection h1 with h1
    injection h1 with h1
    subst h1
    subst h3
    refine ⟨?_, hb⟩
    unfold Blk
    rw [hg, ← ht, ← hs, ← Array.length_toList, List.take_length]

theorem made_flat {α : Type} {enc : α → List Value} {sz : Nat} (h : ∀ a, (enc a).length = sz) (hp : 0 < sz) (z : Array Value) (x : α) (hz : z.toList = enc x) (n : Nat) :
    (madeCells z (n * sz)).toList = flat enc (List.replicate n x) := by
  have hzs : z.size = sz := by rw [← Array.length_toList, hz, h]
  have hl := flat_length h (List.replicate n x)
  rw [List.length_replicate] at hl
  apply List.ext_getElem?
  intro k
  rcases Nat.lt_or_ge k (n * sz) with hk | hk
  · have hj := Nat.mod_lt k hp
    have hi : k / sz < n := Nat.div_lt_of_lt_mul (by rw [Nat.mul_comm]; exact hk)
    have hf := flat_get h (List.replicate n x) (k / sz) (k % sz) hj
    rw [Nat.div_add_mod' k sz] at hf
    rw [hf]
    have hjz : k % sz < z.size := by omega
    simp only [madeCells, hzs, Array.toList_map, Array.toList_range, List.getElem?_map, List.getElem?_range hk, Option.map_some, List.getElem?_replicate, if_pos hi, Option.bind_some, ← hz, Array.getElem?_toList]
    rw [Array.getElem?_eq_getElem hjz, getElem!_pos z (k % sz) hjz]
  · rw [List.getElem?_eq_none (by simpa [madeCells] using hk), List.getElem?_eq_none (by omega)]

theorem Blk.new' {g : Nat} (w : World) (t : TypeId) (cs : List Value) (h : g = w.heap.size) : Blk (w.alloc (.cells cs.toArray t)) g t cs := by
  subst h
  exact Blk.new w t cs

theorem own_form {w : World} {base e sz n : Nat} {v : Value} {xs : List Value} (h : w.ownsRow base e sz v n xs) : ∃ A c, v = .slice A n c := by
  rcases h.2 with ⟨rfl, rfl⟩ | ⟨g, cap, cur, rfl, _⟩
  · exact ⟨none, 0, rfl⟩
  · exact ⟨_, _, rfl⟩

/-- A slice value of address A reads as these cells, from place o of block b on. -/
def Rd (w : World) (b o : Nat) (A : Option Addr) (cells : List Value) : Prop := ∀ j u, cells[j]? = some u → A = some ⟨b, o, none⟩ ∧ w.cell? ⟨b, o + j, none⟩ = some u
theorem Rd.mod {S : List Nat} {w w' : World} {b o : Nat} {A : Option Addr} {cs : List Value} (h : Rd w b o A cs) (hm : Mod S w w') (hb : cs ≠ [] → b ∉ S) : Rd w' b o A cs := fun j u hj =>
  ⟨(h j u hj).1, (hm.cell (p := ⟨b, o + j, none⟩) (World.block_lt_of_cell? w _ (h j u hj).2) (hb (fun e => by subst e; cases hj))).trans (h j u hj).2⟩
theorem Rd.lt {w : World} {b o : Nat} {A : Option Addr} {cs : List Value} (h : Rd w b o A cs) (hn : cs ≠ []) : b < w.heap.size := by
  obtain ⟨x, l, rfl⟩ := List.exists_cons_of_ne_nil hn
  exact World.block_lt_of_cell? w _ (h 0 x rfl).2

theorem Rd.of_own {w : World} {base e sz n c : Nat} {A : Option Addr} {cs : List Value} (h : w.ownsRow base e sz (.slice A n c) n cs) : ∃ b, Rd w b 0 A cs ∧ (cs ≠ [] → base ≤ b) := by
  rcases h.2 with ⟨h0, hn⟩ | ⟨g, cap, cur, hv, hb, hg, r⟩
  · refine ⟨0, fun j u hj => ?_, fun hne => ?_⟩
    · have hx : cs = [] := List.eq_nil_of_length_eq_zero (by rw [h.1, hn]; simp)
      subst hx
      cases hj
    · exact absurd (List.eq_nil_of_length_eq_zero (by rw [h.1, hn]; simp)) hne
  · injection hv with hA
    subst hA
    refine ⟨g, fun j u hj => ⟨rfl, ?_⟩, fun _ => hb⟩
    have := h.cells (g := g) rfl j u hj
    rw [← this]
    unfold Addr.add
    split <;> simp_all

section
variable {P : Program}
/-- append onto a row of the call's own, from a row that is known whole (nil let in). -/
theorem run_append_owned (w : World) (t ty base e : TypeId) (i : TypeInfo) (z : Value) (size bytes : Nat) (ht : P.underlying t = some (.slice e)) (hi : P.info? e = some i) (hz : i.zero = some z)
    (hsize : i.size = size) (hby : i.bytes = bytes) (hzs : z.cells.size = size) (hsz : 0 < size)
    (v : Value) (n : Nat) (xs : List Value) (hown : w.ownsRow base e size v n xs)
    (s : Value) (m base' e' : Nat) (ys : List Value) (hs : w.ownsRow base' e' size s m ys) (h1 : ∀ u ∈ ys, u.oneCell' = true)
    (h63 : n + m ≤ maxLen) (hbytes : (n + m) * bytes ≤ 140737488355328) (hbase : base ≤ w.heap.size) :
    ∃ A c w', (Builtin.append_ #[t, t] ty #[v, s]).run P w = .ok (.slice A (n + m) c) w' ∧ w'.ownsRow base e size (.slice A (n + m) c) (n + m) (xs ++ ys) ∧ w.grownBy w' v.ownBlock ∧
      ((Value.slice A (n + m) c).ownBlock = v.ownBlock ∨ (Value.slice A (n + m) c).ownBlock = some w.heap.size) := by
  rcases hs.2 with ⟨rfl, rfl⟩ | ⟨g, cap, cur, rfl, _, _, _⟩
  · have hx : ys = [] := List.eq_nil_of_length_eq_zero (by simpa using hs.1)
    subst hx
    obtain ⟨A, c, rfl⟩ := own_form hown
    exact ⟨A, c, w, run_append_owned_none (P := P) w base t ty e i size ht hi _ n xs hown, by simpa using hown, World.grownBy.refl _ _, .inl rfl⟩
  · obtain ⟨v', w', hrun, h2, h3, _, h5⟩ := run_append_own_at (P := P) w base t ty e i z size bytes ht hi hz hsize hby hzs hsz v n xs hown ⟨g, 0, none⟩ m cap ys hs.1 (hs.cells rfl) h1 h63 hbytes hbase
    obtain ⟨A, c, rfl⟩ := own_form h2
    exact ⟨A, c, w', hrun, h2, h3, h5⟩

theorem wp_append_owned {w : World} {o : Oper} {a : Act} {K : Act → World → Prop} {Q : Exit → Act → World → Prop} (s x : Operand) (t : TypeId)
    (ho : o.op = .call { callee := .builtin .append, args := #[s, x], argTypes := #[t, t] })
    (base e : TypeId) (i : TypeInfo) (z : Value) (size bytes : Nat) (ht : P.underlying t = some (.slice e)) (hi : P.info? e = some i) (hz : i.zero = some z)
    (hsize : i.size = size) (hby : i.bytes = bytes) (hzs : z.cells.size = size) (hsz : 0 < size)
    (v : Value) (n : Nat) (xs : List Value) (hv : a.eval s = v) (hown : w.ownsRow base e size v n xs)
    (y : Value) (m base' e' : Nat) (ys : List Value) (hy : a.eval x = y) (hs : w.ownsRow base' e' size y m ys) (h1 : ∀ u ∈ ys, u.oneCell' = true)
    (h63 : n + m ≤ maxLen) (hbytes : (n + m) * bytes ≤ 140737488355328) (hbase : base ≤ w.heap.size)
    (h : ∀ A c w', w'.ownsRow base e size (.slice A (n + m) c) (n + m) (xs ++ ys) → w.grownBy w' v.ownBlock → ((Value.slice A (n + m) c).ownBlock = v.ownBlock ∨ (Value.slice A (n + m) c).ownBlock = some w.heap.size) → K (a.put o.dst (.slice A (n + m) c)) w') : o.wp P a w K Q := by
  obtain ⟨A, c, w', hr, h2, h3, h4⟩ := run_append_owned (P := P) w t o.type base e i z size bytes ht hi hz hsize hby hzs hsz v n xs hown y m base' e' ys hs h1 h63 hbytes hbase
  unfold Oper.wp execOp
  simp only [ho, resolve, invoke, builtin, Sem.run_bind, Sem.run_pure, Result.andThen_ok, List.map_toArray, List.map_cons, List.map_nil, hv, hy, hr]
  exact h A c w' h2 h3 h4

theorem wpList_append_owned {w : World} {ops : Array Oper} {rest : List Oper} {o : Oper} {a : Act} {Q : Exit → Act → World → Prop} (hgd : o.guard = none) (s x : Operand) (t : TypeId)
    (ho : o.op = .call { callee := .builtin .append, args := #[s, x], argTypes := #[t, t] })
    (base e : TypeId) (i : TypeInfo) (z : Value) (size bytes : Nat) (ht : P.underlying t = some (.slice e)) (hi : P.info? e = some i) (hz : i.zero = some z)
    (hsize : i.size = size) (hby : i.bytes = bytes) (hzs : z.cells.size = size) (hsz : 0 < size)
    (v : Value) (n : Nat) (xs : List Value) (hv : a.eval s = v) (hown : w.ownsRow base e size v n xs)
    (y : Value) (m base' e' : Nat) (ys : List Value) (hy : a.eval x = y) (hs : w.ownsRow base' e' size y m ys) (h1 : ∀ u ∈ ys, u.oneCell' = true)
    (h63 : n + m ≤ maxLen) (hbytes : (n + m) * bytes ≤ 140737488355328) (hbase : base ≤ w.heap.size)
    (h : ∀ A c w', w'.ownsRow base e size (.slice A (n + m) c) (n + m) (xs ++ ys) → w.grownBy w' v.ownBlock → ((Value.slice A (n + m) c).ownBlock = v.ownBlock ∨ (Value.slice A (n + m) c).ownBlock = some w.heap.size) → wpList P ops Q rest (a.put o.dst (.slice A (n + m) c)) w') : wpList P ops Q (o :: rest) a w :=
  wpList_plain hgd fun _ hK => wp_append_owned s x t ho base e i z size bytes ht hi hz hsize hby hzs hsz v n xs hv hown y m base' e' ys hy hs h1 h63 hbytes hbase fun A c w' h2 h3 h4 => hK _ _ (h A c w' h2 h3 h4)

theorem step_append_owned {w : World} {ops : Array Oper} {o : Oper} {a : Act} {K : Act → World → Prop} {Q : Exit → Act → World → Prop} {E : Prop} (hgd : o.guard = none) (s x : Operand) (t : TypeId)
    (ho : o.op = .call { callee := .builtin .append, args := #[s, x], argTypes := #[t, t] })
    (base e : TypeId) (i : TypeInfo) (z : Value) (size bytes : Nat) (ht : P.underlying t = some (.slice e)) (hi : P.info? e = some i) (hz : i.zero = some z)
    (hsize : i.size = size) (hby : i.bytes = bytes) (hzs : z.cells.size = size) (hsz : 0 < size)
    (v : Value) (n : Nat) (xs : List Value) (hv : a.eval s = v) (hown : w.ownsRow base e size v n xs)
    (y : Value) (m base' e' : Nat) (ys : List Value) (hy : a.eval x = y) (hs : w.ownsRow base' e' size y m ys) (h1 : ∀ u ∈ ys, u.oneCell' = true)
    (h63 : n + m ≤ maxLen) (hbytes : (n + m) * bytes ≤ 140737488355328) (hbase : base ≤ w.heap.size)
    (h : ∀ A c w', w'.ownsRow base e size (.slice A (n + m) c) (n + m) (xs ++ ys) → w.grownBy w' v.ownBlock → ((Value.slice A (n + m) c).ownBlock = v.ownBlock ∨ (Value.slice A (n + m) c).ownBlock = some w.heap.size) → K (a.put o.dst (.slice A (n + m) c)) w') :
    if Region.wanted o (yielded ops a.tmps) = true then Oper.wp P o a w K Q else E := by
  have hw : Region.wanted o (yielded ops a.tmps) = true := by simp [Region.wanted, hgd]
  rw [if_pos hw]
  exact wp_append_owned s x t ho base e i z size bytes ht hi hz hsize hby hzs hsz v n xs hv hown y m base' e' ys hy hs h1 h63 hbytes hbase h

theorem ownsRow_base {w : World} {base base' e sz n : Nat} {v : Value} {xs : List Value} (h : w.ownsRow base e sz v n xs) (hb : base' ≤ base) : w.ownsRow base' e sz v n xs := by
  refine ⟨h.1, ?_⟩
  rcases h.2 with h0 | ⟨g, cap, cur, hv, hg, r⟩
  · exact .inl h0
  · exact .inr ⟨g, cap, cur, hv, Nat.le_trans hb hg, r⟩

/-- append([]T{}, s...): a copy. -/
theorem run_append_clone (w : World) (t ty base e : TypeId) (i : TypeInfo) (z : Value) (size bytes : Nat) (ht : P.underlying t = some (.slice e)) (hi : P.info? e = some i) (hz : i.zero = some z)
    (hsize : i.size = size) (hby : i.bytes = bytes) (hzs : z.cells.size = size) (hsz : 0 < size)
    (g : Nat) (hown : w.ownsRow base e size (.slice (some ⟨g, 0, none⟩) 0 0) 0 [])
    (s : Value) (m base' e' : Nat) (ys : List Value) (hs : w.ownsRow base' e' size s m ys) (h1 : ∀ u ∈ ys, u.oneCell' = true)
    (h63 : m ≤ maxLen) (hbytes : m * bytes ≤ 140737488355328) (hbase : base ≤ w.heap.size) :
    ∃ A c w', (Builtin.append_ #[t, t] ty #[.slice (some ⟨g, 0, none⟩) 0 0, s]).run P w = .ok (.slice A m c) w' ∧ w'.ownsRow base e size (.slice A m c) m ys ∧ w.grownBy w' none := by
  rcases hs.2 with ⟨rfl, rfl⟩ | ⟨g', cap, cur, rfl, _, _, _⟩
  · have hx : ys = [] := List.eq_nil_of_length_eq_zero (by simpa using hs.1)
    subst hx
    exact ⟨_, _, w, run_append_owned_none (P := P) w base t ty e i size ht hi _ 0 [] hown, hown, World.grownBy.refl _ _⟩
  · rcases Nat.eq_zero_or_pos m with hm | hm
    · subst hm
      have hx : ys = [] := List.eq_nil_of_length_eq_zero (by simpa using hs.1)
      subst hx
      obtain ⟨hb, _⟩ := Blk.of_own hown
      have hr := run_append_room (P := P) w t ty e i ht hi g 0 0 #[] hb ⟨g', 0, none⟩ 0 cap [] (by simp) (by simp) (by simp) (by omega) (by simp)
      refine ⟨_, _, w, ?_, hown, World.grownBy.refl _ _⟩
      rw [hr]
      simp [setRow_self w g #[] e (0, 0) hb]
    · obtain ⟨v', w', hrun, h2, h3⟩ := run_append_arg_grows (P := P) w t ty e i z size bytes ht hi hz hsize hby hzs hsz ⟨g, 0, none⟩ 0 0 [] (by simp) (by simp) ⟨g', 0, none⟩ m cap ys hs.1 (hs.cells rfl) (by omega) (by omega) (by rw [Nat.zero_add]; exact hbytes)
      rw [Nat.zero_add] at h2
      obtain ⟨A, c, rfl⟩ := own_form h2
      exact ⟨A, c, w', hrun, ownsRow_base (by simpa using h2) hbase, h3⟩

theorem wpList_append_clone {w : World} {ops : Array Oper} {rest : List Oper} {o : Oper} {a : Act} {Q : Exit → Act → World → Prop} (hgd : o.guard = none) (s x : Operand) (t : TypeId)
    (ho : o.op = .call { callee := .builtin .append, args := #[s, x], argTypes := #[t, t] })
    (base e : TypeId) (i : TypeInfo) (z : Value) (size bytes : Nat) (ht : P.underlying t = some (.slice e)) (hi : P.info? e = some i) (hz : i.zero = some z)
    (hsize : i.size = size) (hby : i.bytes = bytes) (hzs : z.cells.size = size) (hsz : 0 < size)
    (g : Nat) (hv : a.eval s = .slice (some ⟨g, 0, none⟩) 0 0) (hown : w.ownsRow base e size (.slice (some ⟨g, 0, none⟩) 0 0) 0 [])
    (y : Value) (m base' e' : Nat) (ys : List Value) (hy : a.eval x = y) (hs : w.ownsRow base' e' size y m ys) (h1 : ∀ u ∈ ys, u.oneCell' = true)
    (h63 : m ≤ maxLen) (hbytes : m * bytes ≤ 140737488355328) (hbase : base ≤ w.heap.size)
    (h : ∀ A c w', w'.ownsRow base e size (.slice A m c) m ys → w.grownBy w' none → wpList P ops Q rest (a.put o.dst (.slice A m c)) w') : wpList P ops Q (o :: rest) a w := by
  refine wpList_plain hgd fun K hK => ?_
  obtain ⟨A, c, w', hr, h2, h3⟩ := run_append_clone (P := P) w t o.type base e i z size bytes ht hi hz hsize hby hzs hsz g hown y m base' e' ys hs h1 h63 hbytes hbase
  unfold Oper.wp execOp
  simp only [ho, resolve, invoke, builtin, Sem.run_bind, Sem.run_pure, Result.andThen_ok, List.map_toArray, List.map_cons, List.map_nil, hv, hy, hr]
  exact hK _ _ (h A c w' h2 h3)

/-- The same from a slice of which it is known how it reads. -/
theorem run_append_clone_rd (w : World) (t ty base e : TypeId) (i : TypeInfo) (z : Value) (size bytes : Nat) (ht : P.underlying t = some (.slice e)) (hi : P.info? e = some i) (hz : i.zero = some z)
    (hsize : i.size = size) (hby : i.bytes = bytes) (hzs : z.cells.size = size) (hsz : 0 < size)
    (g : Nat) (hown : w.ownsRow base e size (.slice (some ⟨g, 0, none⟩) 0 0) 0 [])
    (A : Option Addr) (m c b o : Nat) (ys : List Value) (hA : A = none → c = 0) (hr : Rd w b o A ys) (hl : ys.length = m * size) (h1 : ∀ u ∈ ys, u.oneCell' = true)
    (h63 : m ≤ maxLen) (hbytes : m * bytes ≤ 140737488355328) (hbase : base ≤ w.heap.size) :
    ∃ A' c' w', (Builtin.append_ #[t, t] ty #[.slice (some ⟨g, 0, none⟩) 0 0, .slice A m c]).run P w = .ok (.slice A' m c') w' ∧ w'.ownsRow base e size (.slice A' m c') m ys ∧ w.grownBy w' none := by
  rcases Nat.eq_zero_or_pos m with hm | hm
  · subst hm
    have hx : ys = [] := List.eq_nil_of_length_eq_zero (by simpa using hl)
    subst hx
    rcases A with _ | ad
    · obtain rfl := hA rfl
      exact ⟨_, _, w, run_append_owned_none (P := P) w base t ty e i size ht hi _ 0 [] hown, hown, World.grownBy.refl _ _⟩
    · obtain ⟨hb, _⟩ := Blk.of_own hown
      have hr := run_append_room (P := P) w t ty e i ht hi g 0 0 #[] hb ad 0 c [] (by simp) (by simp) (by simp) (by omega) (by simp)
      refine ⟨_, _, w, ?_, hown, World.grownBy.refl _ _⟩
      rw [hr]
      simp [setRow_self w g #[] e (0, 0) hb]
  · have hne : ys ≠ [] := by
      intro e0
      subst e0
      have := Nat.mul_pos hm hsz
      simp at hl
      omega
    obtain ⟨x, l, hx⟩ := List.exists_cons_of_ne_nil hne
    obtain ⟨rfl, _⟩ := hr 0 x (by rw [hx]; rfl)
    obtain ⟨v', w', hrun, h2, h3⟩ := run_append_arg_grows (P := P) w t ty e i z size bytes ht hi hz hsize hby hzs hsz ⟨g, 0, none⟩ 0 0 [] (by simp) (by simp) ⟨b, o, none⟩ m c ys hl
      (fun j u hj => by have := (hr j u hj).2; rw [← this]; unfold Addr.add; split <;> simp_all) (by omega) (by omega) (by rw [Nat.zero_add]; exact hbytes)
    rw [Nat.zero_add] at h2
    obtain ⟨A', c', rfl⟩ := own_form h2
    exact ⟨A', c', w', hrun, ownsRow_base (by simpa using h2) hbase, h3⟩

theorem wpList_append_clone_rd {w : World} {ops : Array Oper} {rest : List Oper} {o : Oper} {a : Act} {Q : Exit → Act → World → Prop} (hgd : o.guard = none) (s x : Operand) (t : TypeId)
    (ho : o.op = .call { callee := .builtin .append, args := #[s, x], argTypes := #[t, t] })
    (base e : TypeId) (i : TypeInfo) (z : Value) (size bytes : Nat) (ht : P.underlying t = some (.slice e)) (hi : P.info? e = some i) (hz : i.zero = some z)
    (hsize : i.size = size) (hby : i.bytes = bytes) (hzs : z.cells.size = size) (hsz : 0 < size)
    (g : Nat) (hv : a.eval s = .slice (some ⟨g, 0, none⟩) 0 0) (hown : w.ownsRow base e size (.slice (some ⟨g, 0, none⟩) 0 0) 0 [])
    (A : Option Addr) (m c b off : Nat) (ys : List Value) (hy : a.eval x = .slice A m c) (hA : A = none → c = 0) (hr : Rd w b off A ys) (hl : ys.length = m * size) (h1 : ∀ u ∈ ys, u.oneCell' = true)
    (h63 : m ≤ maxLen) (hbytes : m * bytes ≤ 140737488355328) (hbase : base ≤ w.heap.size)
    (h : ∀ A c w', w'.ownsRow base e size (.slice A m c) m ys → w.grownBy w' none → wpList P ops Q rest (a.put o.dst (.slice A m c)) w') : wpList P ops Q (o :: rest) a w := by
  refine wpList_plain hgd fun K hK => ?_
  obtain ⟨A', c', w', hrun, h2, h3⟩ := run_append_clone_rd (P := P) w t o.type base e i z size bytes ht hi hz hsize hby hzs hsz g hown A m c b off ys hA hr hl h1 h63 hbytes hbase
  unfold Oper.wp execOp
  simp only [ho, resolve, invoke, builtin, Sem.run_bind, Sem.run_pure, Result.andThen_ok, List.map_toArray, List.map_cons, List.map_nil, hv, hy, hrun]
  exact hK _ _ (h A' c' w' h2 h3)
end
end Go.Proofs.Ytkndpdmopgmlcaa
end
section
/- How the arguments of these rows stand in memory: a slice of structs of three cells, and of entries and deeds. No condition. -/
namespace Go.Proofs.Ytkndpdmopgmlcaa
open Go.RowKit Go.WideShapes Go.ChangeShapes Go.Deep

theorem exists_list {α : Type} {n : Nat} {R : Nat → α → Prop} (h : ∀ i, i < n → ∃ a, R i a) : ∃ l : List α, l.length = n ∧ ∀ i a, l[i]? = some a → R i a := by
  induction n with
  | zero => exact ⟨[], rfl, fun i a h => by simp at h⟩
  | succ n ih =>
    obtain ⟨l, hl, hg⟩ := ih (fun i hi => h i (by omega))
    obtain ⟨a, ha⟩ := h n (by omega)
    refine ⟨l ++ [a], by simp [hl], fun i b hb => ?_⟩
    rcases Nat.lt_or_ge i n with h1 | h1
    · exact hg i b (by rwa [List.getElem?_append_left (by omega)] at hb)
    · rw [List.getElem?_append_right (by omega)] at hb
      have h2 : i - l.length < 1 := by
        have := (List.getElem?_eq_some_iff.1 hb).1
        simpa using this
      have h3 : i = n := by omega
      subst h3
      rw [hl, Nat.sub_self] at hb
      simp at hb
      exact hb ▸ ha

section
variable {H : Type} {enc : TypeId × Value → H} {P : Program} {w : World} {base : Nat} {spare : Nat → Bool} {held : Bool}

/-- A slice whose elements are of a known form: where it lies, and what it holds. -/
theorem rd_slice {α : Type} {cells : α → List Value} {C : Nat} (hcl : ∀ a, (cells a).length = C) (hC0 : 0 < C) {t e : TypeId} {fuel : Nat} {cs : List Value} {x : DataW H × List MemPlace} (G : α → Prop)
    (ht : P.underlying t = some (.slice e)) (hC : P.cellsOf e = C) (one : ∀ n cs d, DataW.trod enc P w base spare held n e cs = some d → ∃ a : α, cs = cells a ∧ G a)
    (h : DataW.trod enc P w base spare held fuel t cs = some x) :
    ∃ (A : Option Addr) (cap b o : Nat) (xs : List α), cs = [.slice A xs.length cap] ∧ xs.length ≤ maxLen ∧ Rd w b o A (flat cells xs) ∧ ∀ a ∈ xs, G a := by
  rcases open_slice ht h with ⟨rfl, _⟩ | ⟨a, len, cap, m, n, D, Pl, rfl, _, hl, hm, hmm, _, hi⟩
  · exact ⟨none, 0, 0, 0, [], rfl, Nat.zero_le _, (fun j u hj => by simp [flat] at hj), fun a ha => by cases ha⟩
  · have hle : len ≤ m := by rw [hmm]; split <;> omega
    obtain ⟨xs, hxl, hx⟩ := exists_list (n := len) (R := fun i y => w.cells? base (a.add (i * C)) C = some (cells y) ∧ G y) (fun i hil => by
      obtain ⟨cs', h1, h2⟩ := hi i (by omega)
      obtain ⟨y, rfl, hg⟩ := one _ _ _ h2
      rw [hC] at h1
      exact ⟨y, h1, hg⟩)
    obtain ⟨ab, ao, asp⟩ := a
    have hspot : xs ≠ [] → asp = none := fun hne => by
      obtain ⟨y, l, rfl⟩ := List.exists_cons_of_ne_nil hne
      have h1 := (World.cells?_some (hx 0 y rfl).1).2.2 0 hC0
      obtain ⟨u, hu⟩ : ∃ u, (cells y)[0]? = some u := ⟨_, List.getElem?_eq_getElem (by rw [hcl]; exact hC0)⟩
      rw [hu, Nat.zero_mul] at h1
      exact World.cell?_spot (a := ⟨ab, ao, asp⟩) (by simpa [Addr.add] using h1)
    have hcell : ∀ i y j, xs[i]? = some y → j < C → w.cell? ⟨ab, ao + (i * C + j), none⟩ = (cells y)[j]? := fun i y j hy hj => by
      have h1 := (World.cells?_some (hx i y hy).1).2.2 j hj
      obtain rfl := hspot (fun e => by rw [e] at hy; simp at hy)
      rw [← h1]
      congr 1
      by_cases h2 : i * C = 0 <;> by_cases h3 : j = 0 <;> simp [Addr.add, h2, h3, Nat.add_assoc]
    refine ⟨some ⟨ab, ao, asp⟩, cap, ab, ao, xs, by rw [hxl], by omega, fun j u hj => ?_, fun y hy => ?_⟩
    · have hjl : j < (flat cells xs).length := (List.getElem?_eq_some_iff.1 hj).1
      rw [flat_length hcl] at hjl
      have hd : j / C < xs.length := Nat.div_lt_of_lt_mul (by rwa [Nat.mul_comm] at hjl)
      have hr : j % C < C := Nat.mod_lt _ hC0
      have hjj : j = j / C * C + j % C := by rw [Nat.mul_comm]; exact (Nat.div_add_mod j C).symm
      obtain ⟨y, hy⟩ : ∃ y, xs[j / C]? = some y := ⟨_, List.getElem?_eq_getElem hd⟩
      have hc := hcell _ y _ hy hr
      have hf := flat_get hcl xs (j / C) (j % C) hr
      rw [← hjj, hj, hy] at hf
      rw [← hjj] at hc
      obtain rfl := hspot (fun e => by rw [e] at hy; simp at hy)
      refine ⟨rfl, ?_⟩
      rw [hc]
      simpa using hf.symm
    · obtain ⟨i, hil, he⟩ := List.getElem_of_mem hy
      exact (hx i y (by rw [← he]; exact List.getElem?_eq_getElem hil)).2

/-- The outer form of a slice, its cells known. -/
theorem slice_of_cells {r : Reach} {b0 : Nat} {t e : TypeId} {v : Value} {A : Option Addr} {n c : Nat} (ht : P.underlying t = some (.slice e)) (hval : Value.okWide P w r b0 t v) (hc : v.cells.toList = [.slice A n c]) : v = .slice A n c := by
  obtain ⟨A', n', c', rfl⟩ := okWide_slice ht hval
  simpa [Value.cells] using hc
end
end Go.Proofs.Ytkndpdmopgmlcaa
end
section
/- Arguments without pointers: their cells by kind. No condition. -/
namespace Go.Proofs.Ytkndpdmopgmlcaa
open Go.ChangeShapes Go.WideShapes Go.ChangeAt Go.RowKit Go.Deep

inductive Leaf where
  | int (k : IntKind)
  | bool
  | str
def LeafOK : Leaf → Value → Prop
  | .int k, v => ∃ z : Int, v = .int k z ∧ (Lit.int k z).wf = true
  | .bool, v => ∃ b : Bool, v = .bool b
  | .str, v => ∃ s : ByteArray, v = .string s ∧ s.size ≤ maxLen
def leavesF (P : Program) (g : TypeId → Option (List Leaf)) : List Field → Nat → Option (List Leaf)
  | [], _ => some []
  | f :: fs, off => match Nat.beq f.offset off, g f.type with
    | true, some l => match Nat.beq l.length (P.cellsOf f.type) with
      | true => (leavesF P g fs (off + l.length)).map fun r => l ++ r
      | false => none
    | _, _ => none
def leaves (P : Program) : Nat → TypeId → Option (List Leaf)
  | 0, _ => none
  | d + 1, t => match P.underlying t with
    | some .bool => some [.bool]
    | some (.int k) => some [.int k]
    | some .string => some [.str]
    | some (.struct fs) => match leavesF P (leaves P d) fs.toList 0 with
      | some l => match Nat.beq l.length (P.cellsOf t) with
        | true => some l
        | false => none
      | none => none
    | _ => none

theorem Two.append {α β : Type} {R : α → β → Prop} : ∀ {a b : List α} {c d : List β}, Two R a c → Two R b d → Two R (a ++ b) (c ++ d)
  | _, _, _, _, .nil, h => h
  | _, _, _, _, .cons h t, k => .cons h (t.append k)
theorem Two.length {α β : Type} {R : α → β → Prop} : ∀ {a : List α} {b : List β}, Two R a b → a.length = b.length
  | _, _, .nil => rfl
  | _, _, .cons _ t => by simp [t.length]

section
variable {H : Type} {enc : TypeId × Value → H} {P : Program} {w : World} {base : Nat} {spare : Nat → Bool} {held : Bool}
theorem leavesF_trod {g : TypeId → Option (List Leaf)} {m : Nat} {cs : List Value} (hg : ∀ t ls n cs x, g t = some ls → DataW.trod enc P w base spare held n t cs = some x → Two LeafOK ls cs) :
    ∀ {fs : List Field} {off : Nat} {ls : List Leaf}, leavesF P g fs off = some ls → (∀ f ∈ fs, ∃ x, DataW.trod enc P w base spare held m f.type ((cs.drop f.offset).take (P.cellsOf f.type)) = some x) → Two LeafOK ls ((cs.drop off).take ls.length)
  | [], off, ls, h, _ => by
    simp only [leavesF, Option.some.injEq] at h
    subst h
    simpa using Two.nil
  | f :: fs, off, ls, h, hx => by
    simp only [leavesF] at h
    split at h <;> try cases h
    next l ho hl =>
    split at h <;> try cases h
    next hlen =>
    simp only [Option.map_eq_some_iff] at h
    obtain ⟨r, hr, rfl⟩ := h
    have ho := Nat.eq_of_beq_eq_true ho
    have hlen := Nat.eq_of_beq_eq_true hlen
    obtain ⟨x, h1⟩ := hx f (List.mem_cons_self ..)
    have h2 := hg _ _ _ _ _ hl h1
    have h3 := leavesF_trod hg hr (fun f hf => hx f (List.mem_cons_of_mem _ hf))
    rw [← hlen, ho] at h2
    rw [List.length_append, List.take_add, List.drop_drop]
    exact h2.append h3
theorem leaves_trod : ∀ {d : Nat} {t : TypeId} {ls : List Leaf} {n : Nat} {cs : List Value} {x : DataW H × List MemPlace}, leaves P d t = some ls → DataW.trod enc P w base spare held n t cs = some x → Two LeafOK ls cs
  | 0, _, _, _, _, _, h, _ => by simp [leaves] at h
  | d + 1, t, ls, n, cs, x, h, hx => by
    simp only [leaves] at h
    split at h
    · next hu =>
      injection h with h
      subst h
      obtain ⟨b, rfl, _⟩ := DataW.trod_bool hu hx
      exact .cons ⟨b, rfl⟩ .nil
    · next k hu =>
      injection h with h
      subst h
      obtain ⟨z, rfl, _, hw⟩ := DataW.trod_int hu hx
      exact .cons ⟨z, rfl, hw⟩ .nil
    · next hu =>
      injection h with h
      subst h
      obtain ⟨s, rfl, _, hs⟩ := DataW.trod_string hu hx
      exact .cons ⟨s, rfl, hs⟩ .nil
    · next fs hu =>
      split at h <;> try cases h
      next l hl =>
      split at h <;> cases h
      next hlen =>
      have hlen := Nat.eq_of_beq_eq_true hlen
      obtain ⟨xs, m, _, _, hcl, hxl, hf⟩ := DataW.trod_struct hu hx
      have h3 := leavesF_trod (enc := enc) (w := w) (base := base) (spare := spare) (held := held) (cs := cs) (m := m) (fun t ls n cs x h1 h2 => leaves_trod h1 h2) hl (fun f hfm => by
        obtain ⟨i, hi, he⟩ := List.getElem_of_mem hfm
        have hfi : fs[i]? = some f := by
          rw [← Array.getElem?_toList, ← he]
          exact List.getElem?_eq_getElem hi
        have hix : i < xs.length := by rw [hxl]; simpa using hi
        exact ⟨xs[i], by have := hf i f hfi; rw [List.getElem?_eq_getElem hix] at this; exact this⟩)
      rw [List.drop_zero, hlen, ← hcl, List.take_length] at h3
      exact h3
    · cases h
end
end Go.Proofs.Ytkndpdmopgmlcaa
end
section
/- Slices among the arguments: as rows of open number. No condition. -/
namespace Go.Proofs.Ytkndpdmopgmlcaa
open Go.ChangeShapes Go.WideShapes Go.ChangeAt Go.RowKit Go.Deep

def colOfLeaf (l : Leaf) (g : Nat → Value) : Col := match l with
  | .int k => .int k fun i => match g i with
    | .int _ z => z
    | _ => 0
  | .bool => .bool fun i => match g i with
    | .bool b => b
    | _ => false
  | .str => .str fun i => match g i with
    | .string s => s
    | _ => ByteArray.empty
def colsOfLeaves : List Leaf → (Nat → List Value) → List Col
  | [], _ => []
  | l :: r, f => colOfLeaf l (fun i => (f i).headD undef) :: colsOfLeaves r fun i => (f i).tail
/-- A column of n cells of a kind. -/
def ColOK (n : Nat) : Leaf → Col → Prop
  | .int k, c => ∃ W : Nat → Int, c = .int k W ∧ ∀ i, i < n → (Lit.int k (W i)).wf = true
  | .bool, c => ∃ W : Nat → Bool, c = .bool W
  | .str, c => ∃ W : Nat → ByteArray, c = .str W ∧ ∀ i, i < n → (W i).size ≤ maxLen
theorem colsOfLeaves_length : ∀ {ls : List Leaf} {f : Nat → List Value}, (colsOfLeaves ls f).length = ls.length
  | [], _ => rfl
  | _ :: r, f => by simp [colsOfLeaves, colsOfLeaves_length (ls := r)]
theorem colsOfLeaves_at : ∀ {ls : List Leaf} {f : Nat → List Value} {i : Nat}, Two LeafOK ls (f i) → colsF (colsOfLeaves ls f) i = f i
  | [], f, i, h => by
    cases hf : f i with
    | nil => rfl
    | cons a l => rw [hf] at h; cases h
  | l :: r, f, i, h => by
    cases hf : f i with
    | nil => rw [hf] at h; cases h
    | cons a t =>
      rw [hf] at h
      cases h with
      | cons h1 h2 =>
        have ih := colsOfLeaves_at (ls := r) (f := fun i => (f i).tail) (i := i) (by simp only [hf, List.tail_cons]; exact h2)
        simp only [colsOfLeaves, colsF, ih, hf, List.tail_cons]
        congr 1
        cases l with
        | int k => obtain ⟨z, rfl, _⟩ := h1; simp [colOfLeaf, Col.at, hf]
        | bool => obtain ⟨b, rfl⟩ := h1; simp [colOfLeaf, Col.at, hf]
        | str => obtain ⟨s, rfl, _⟩ := h1; simp [colOfLeaf, Col.at, hf]
theorem colsOfLeaves_ok {n : Nat} : ∀ {ls : List Leaf} {f : Nat → List Value}, (∀ i, i < n → Two LeafOK ls (f i)) → Two (ColOK n) ls (colsOfLeaves ls f)
  | [], _, _ => .nil
  | l :: r, f, h => by
    have hd : ∀ i, i < n → ∃ a t, f i = a :: t ∧ LeafOK l a ∧ Two LeafOK r t := fun i hi => by
      have := h i hi
      cases hf : f i with
      | nil => rw [hf] at this; cases this
      | cons a t =>
        rw [hf] at this
        cases this with
        | cons h1 h2 => exact ⟨a, t, rfl, h1, h2⟩
    refine .cons ?_ (colsOfLeaves_ok fun i hi => ?_)
    · cases l with
      | int k =>
        refine ⟨_, rfl, fun i hi => ?_⟩
        obtain ⟨a, t, h1, ⟨z, rfl, hz⟩, _⟩ := hd i hi
        simpa [h1] using hz
      | bool => exact ⟨_, rfl⟩
      | str =>
        refine ⟨_, rfl, fun i hi => ?_⟩
        obtain ⟨a, t, h1, ⟨z, rfl, hz⟩, _⟩ := hd i hi
        simpa [h1] using hz
    · obtain ⟨a, t, h1, _, h2⟩ := hd i hi
      simpa [h1] using h2
theorem leaf_one {l : Leaf} {v : Value} (h : LeafOK l v) : v.oneCell' = true := by
  cases l with
  | int k => obtain ⟨z, rfl, _⟩ := h; rfl
  | bool => obtain ⟨b, rfl⟩ := h; rfl
  | str => obtain ⟨s, rfl, _⟩ := h; rfl
theorem leaves_one : ∀ {ls : List Leaf} {vs : List Value}, Two LeafOK ls vs → ∀ v ∈ vs, v.oneCell' = true
  | _, _, .nil, v, h => by cases h
  | _, _, .cons h t, v, hv => by
    rcases List.mem_cons.1 hv with rfl | hv
    · exact leaf_one h
    · exact leaves_one t v hv

section
variable {H : Type} {enc : TypeId × Value → H} {P : Program} {w : World} {base : Nat} {spare : Nat → Bool} {held : Bool}
/-- A slice of elements without pointers, as an argument. -/
theorem tab_slice {d : Nat} {t e : TypeId} {ls : List Leaf} {fuel : Nat} {cs : List Value} {x : DataW H × List MemPlace} (ht : P.underlying t = some (.slice e)) (hl : leaves P d e = some ls) (hC : P.cellsOf e = ls.length) (h0 : 0 < ls.length)
    (h : DataW.trod enc P w base spare held fuel t cs = some x) : ∃ (cols : List Col) (n : Nat) (sp : Spot), cs = [.slice sp.ad n sp.cap] ∧ n ≤ maxLen ∧ Two (ColOK n) ls cols ∧ cols.length = ls.length ∧ TabAt w.heap.size (colsF cols) n cols.length sp [] w := by
  obtain ⟨A, cap, b, o, xs, hcs, hn, hr, _⟩ := rd_slice (α := { r : List Value // Two LeafOK ls r }) (cells := fun a => a.1) (C := ls.length) (fun a => a.2.length.symm) h0 (fun _ => True) ht hC (fun n cs d hd => ⟨⟨cs, leaves_trod hl hd⟩, rfl, trivial⟩) h
  have hf : ∀ i, i < xs.length → ∃ a : { r : List Value // Two LeafOK ls r }, xs[i]? = some a := fun i hi => ⟨_, List.getElem?_eq_getElem hi⟩
  have hT : ∀ i, i < xs.length → Two LeafOK ls (match xs[i]? with | some a => a.1 | none => []) := fun i hi => by
    obtain ⟨a, ha⟩ := hf i hi
    rw [ha]
    exact a.2
  refine ⟨colsOfLeaves ls fun i => match xs[i]? with | some a => a.1 | none => [], xs.length, ⟨b, cap, o, ls.length, xs.length, A⟩, hcs, hn, colsOfLeaves_ok hT, colsOfLeaves_length, ?_⟩
  have hcell : ∀ i, i < xs.length → ∀ j, j < ls.length → ∃ v, (colsF (colsOfLeaves ls fun i => match xs[i]? with | some a => a.1 | none => []) i)[j]? = some v ∧ A = some ⟨b, o, none⟩ ∧ w.cell? ⟨b, o + (i * ls.length + j), none⟩ = some v := fun i hi j hj => by
    rw [colsOfLeaves_at (hT i hi)]
    obtain ⟨a, ha⟩ := hf i hi
    rw [ha]
    have hlen : a.1.length = ls.length := a.2.length.symm
    obtain ⟨v, hv⟩ : ∃ v, a.1[j]? = some v := ⟨_, List.getElem?_eq_getElem (by omega)⟩
    have hfl := flat_get (enc := fun a : { r : List Value // Two LeafOK ls r } => a.1) (fun a => a.2.length.symm) xs i j hj
    rw [ha] at hfl
    have := hr (i * ls.length + j) v (by rw [hfl]; exact hv)
    exact ⟨v, hv, this⟩
  rw [colsOfLeaves_length]
  refine ⟨rfl, rfl, rfl, fun hl0 => ?_, fun i hi => ⟨⟨?_, ?_⟩, fun j hj => ?_⟩⟩
  · obtain ⟨v, _, h1, h2⟩ := hcell 0 hl0 0 h0
    exact ⟨h1, World.block_lt_of_cell? w _ h2, World.block_lt_of_cell? w _ h2⟩
  · rw [colsF_length, colsOfLeaves_length]
  · rw [colsOfLeaves_at (hT i hi)]
    exact leaves_one (hT i hi)
  · obtain ⟨v, h1, _, h2⟩ := hcell i hi j hj
    rw [h1]
    show w.cell? ⟨b, o + i * ls.length + j, none⟩ = _
    rw [Nat.add_assoc]
    exact h2
end

/-- Tables as pieces, and where they lie. -/
def tabsHp : List (List Col × Nat × Spot) → Nat → List (Nat × Chunk Rep)
  | [], _ => []
  | a :: r, i => (i, .rep (.tab a.1 a.2.1)) :: tabsHp r (i + 1)
def tabsN (l : List (List Col × Nat × Spot)) : Names := fun m => (l[m]?).map fun a => a.2.2
theorem tabsHp_get : ∀ {l : List (List Col × Nat × Spot)} {i m : Nat} {c : Chunk Rep}, hget m (tabsHp l i) = some c → i ≤ m ∧ ∃ a, l[m - i]? = some a ∧ c = .rep (.tab a.1 a.2.1)
  | [], _, _, _, h => by cases h
  | a :: r, i, m, c, h => by
    simp only [tabsHp, hget_cons] at h
    split at h
    · next e =>
      subst e
      injection h with h
      exact ⟨Nat.le_refl _, a, by simp, h.symm⟩
    · obtain ⟨h1, b, h2, h3⟩ := tabsHp_get h
      refine ⟨by omega, b, ?_, h3⟩
      rw [show m - i = (m - (i + 1)) + 1 by omega, List.getElem?_cons_succ]
      exact h2
theorem stand_args {P : Program} {w : World} {l : List (List Col × Nat × Spot)} (h : ∀ a ∈ l, TabAt w.heap.size (colsF a.1) a.2.1 a.1.length a.2.2 [] w) (e : Env) : Stand repAt P w.heap.size ⟨e, tabsHp l 0, l.length⟩ (tabsN l) (fun _ => []) w := by
  refine ⟨⟨fun n c _ hc => ?_, (fun n m c d _ _ _ _ _ b hb => by cases hb), (fun n c _ _ b hb => by cases hb)⟩, fun n hn => ?_, fun n hn => ?_, Nat.le_refl _⟩
  · obtain ⟨_, a, h1, rfl⟩ := tabsHp_get hc
    rw [Nat.sub_zero] at h1
    exact ⟨a.2.2, by simp [tabsN, h1], h a (List.mem_of_getElem? h1)⟩
  · cases hx : hget n (tabsHp l 0) with
    | none => rfl
    | some c =>
      obtain ⟨_, a, h1, _⟩ := tabsHp_get hx
      rw [Nat.sub_zero] at h1
      have := lt_of_some h1
      simp only at hn
      omega
  · simp only [tabsN]
    rw [List.getElem?_eq_none hn]
    rfl
end Go.Proofs.Ytkndpdmopgmlcaa
end
section
/- HistExact returns true, whatever its arguments. No condition. -/
namespace Go.Proofs.Ytkndpdmopgmlcaa
set_option maxRecDepth 100000
set_option maxHeartbeats 8000000
set_option linter.unusedVariables false
theorem histExact_walk {k0 : List Col} {L0 : Nat} {s0 : Spot} {w : World} (h0 : Two (ColOK L0) [.int .i64, .int .i64, .bool, .int .i64, .int .u64, .int .u64, .int .i64, .int .i64, .bool, .bool, .int .i64, .bool, .int .u64] k0) (t0 : TabAt w.heap.size (colsF k0) L0 k0.length s0 [] w) (w' : World) (hw : w' = w) : Calls Try.prog 4 #[.slice s0.ad L0 s0.cap] w' fun e w1 => e = .returned (.bool true) ∧ Mod [] w' w1 := by
  subst hw
  obtain ⟨_, _, rfl, ⟨ST, rfl, g_ST⟩, q0_0⟩ := two_uncons h0
  obtain ⟨_, _, rfl, ⟨TH, rfl, g_TH⟩, q0_1⟩ := two_uncons q0_0
  obtain ⟨_, _, rfl, ⟨ID, rfl⟩, q0_2⟩ := two_uncons q0_1
  obtain ⟨_, _, rfl, ⟨K, rfl, g_K⟩, q0_3⟩ := two_uncons q0_2
  obtain ⟨_, _, rfl, ⟨KY, rfl, g_KY⟩, q0_4⟩ := two_uncons q0_3
  obtain ⟨_, _, rfl, ⟨VL, rfl, g_VL⟩, q0_5⟩ := two_uncons q0_4
  obtain ⟨_, _, rfl, ⟨LV, rfl, g_LV⟩, q0_6⟩ := two_uncons q0_5
  obtain ⟨_, _, rfl, ⟨AT, rfl, g_AT⟩, q0_7⟩ := two_uncons q0_6
  obtain ⟨_, _, rfl, ⟨BG, rfl⟩, q0_8⟩ := two_uncons q0_7
  obtain ⟨_, _, rfl, ⟨OV, rfl⟩, q0_9⟩ := two_uncons q0_8
  obtain ⟨_, _, rfl, ⟨ER, rfl, g_ER⟩, q0_10⟩ := two_uncons q0_9
  obtain ⟨_, _, rfl, ⟨DN, rfl⟩, q0_11⟩ := two_uncons q0_10
  obtain ⟨_, _, rfl, ⟨AV, rfl, g_AV⟩, q0_12⟩ := two_uncons q0_11
  obtain rfl := two_nil q0_12
  have hok : _ := (fun j hj => g_TH j hj : ∀ j, j < L0 → (Lit.int .i64 (TH j)).wf = true)
  have hst := stand_args (P := Try.prog) (w := w') (l := [([.int .i64 ST, .int .i64 TH, .bool ID, .int .i64 K, .int .u64 KY, .int .u64 VL, .int .i64 LV, .int .i64 AT, .bool BG, .bool OV, .int .i64 ER, .bool DN, .int .u64 AV], L0, s0)]) (fun a ha => by
    simp only [List.mem_cons, List.not_mem_nil, or_false] at ha
    subst ha
    exact t0) (argsE [.tsl 0 L0])
  exact Tri.law (args := [.tsl 0 L0]) Try.func4 (c := bodyOf Try.prog hlF) (by kernel_rfl) (by kernel_rfl) (hl_start ⟨ST, TH, ID, K, KY, VL, LV, AT, BG, OV, ER, DN, AV, L0⟩ hok) hst rfl
end Go.Proofs.Ytkndpdmopgmlcaa
end
section
/- HistExact, called with whatever, returns true, and its arguments read behind it as they did. No condition. -/
namespace Go.Proofs.Ytkndpdmopgmlcaa
open Go.ChangeShapes Go.WideShapes Go.ChangeAt Go.RowKit Go.Deep
set_option linter.unusedVariables false

set_option maxRecDepth 100000 in
theorem histExact_lifted (os : Os) (started : os.Started) (H : Type) (enc : TypeId × Value → H) :
    ReturnsInHanded {} Try.checked os 4 .any (Rows.histExactSpec.pre6 enc Try.prog Try.f4 Rows.histExactRow.domain false) (Rows.histExactSpec.post enc Try.prog Try.f4 false true false false) := by
  refine returnsInHanded_of_change (C := Try.checked) own_ started (by kernel_rfl) Try.func4
    (ChangeSpec.witness6 (enc := enc) (C := Try.checked) false ⟨#[], #[.slice none 0 0], []⟩ 8 (by kernel_rfl) (by kernel_rfl) (by kernel_rfl) (by kernel_rfl)) ?_
  intro W base args ds gs before hval0 hW hcnd _
  have hval : ∀ (j : Nat) t v, Try.f4.params[j]? = some t → args[j]? = some v → Value.okWide Try.prog W .any base t v := hval0
  have hW' := hW
  obtain ⟨p, q, hA0, hV, rfl, hfz, hnd⟩ := hW
  have hA : DataW.TrodAll enc Try.prog W 0 (fun _ => true) true Try.f4.params.toList args.toList ds p := hA0
  rw [Try.params4] at hA hval
  obtain ⟨v0, d0, rfl, rfl, h0⟩ := trodAll_one hA
  obtain ⟨rfl, rfl⟩ := trodVars_none hV
  have k0 := h0
  have lt0 : ∀ x ∈ p, x.block < W.heap.size := by obtain ⟨m, hm⟩ := k0; exact DataW.trod_lt m _ _ _ hm
  obtain ⟨f0, hf0⟩ := h0
  obtain ⟨c0, n0, s0, e0, _, l0, _, t0⟩ := tab_slice (d := 9) (t := 65) (e := 73) (ls := [.int .i64, .int .i64, .bool, .int .i64, .int .u64, .int .u64, .int .i64, .int .i64, .bool, .bool, .int .i64, .bool, .int .u64]) Try.underlying65 (by kernel_rfl) (by kernel_rfl) (by decide) hf0
  obtain rfl := slice_of_cells Try.underlying65 (hval 0 _ v0 rfl rfl) e0
  clear hA0 hval0
  refine (histExact_walk l0 t0 W rfl).mono fun e W' ⟨he, hm⟩ => ?_
  subst he
  have bel := hm.below
  exact ⟨_, rfl, _, _, _, [], _, [], hW', trodAll_mk1 (shut_bool Try.underlying4 _), (trodAll_mk1 (Below.trod laid_ (by kernel_rfl) (of_decide_eq_true (by kernel_rfl)) k0 bel lt0)), rfl, bel.frame _, fun h => by cases h⟩

theorem histExact_holds : Rows.HistExactSaid :=
  OpenClaim.holds_of_wide 4 Try.f4 rfl rfl rfl rfl rfl rfl rfl ⟨rfl, rfl, rfl, rfl, rfl⟩ rfl rfl rfl rfl rfl (by kernel_rfl) Try.func4 (by kernel_rfl)
    (of_decide_eq_true (by kernel_rfl)) (by unfold Func.isWrapper; first | (rw [if_pos (by decide +kernel)]; kernel_rfl) | (rw [if_neg (by decide +kernel)]; exact ⟨rfl, rfl⟩))
    (fun os started H enc _ => histExact_lifted os started H enc)
end Go.Proofs.Ytkndpdmopgmlcaa
end
