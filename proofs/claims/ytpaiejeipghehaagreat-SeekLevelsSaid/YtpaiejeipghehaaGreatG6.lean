/- SeekExact: the states at its loop's head. No condition. -/
import Derived.Test.YtpaiejeipghehaaGreatG4
import Derived.Test.YtpaiejeipghehaaGreatG3
import Derived.Test.YtpaiejeipghehaaGreatG2
import Derived.Test.YtpaiejeipghehaaGreatG5
section
/- Calls whose answers are known where a test holds; the document's Slot and Marked. Condition: the words fit. -/
namespace Go.Proofs.YtpaiejeipghehaaGreat
section
variable {R : Type} {A : RepAt R} {P : Program}
def condX (c : Bool) (s : SV) : M R SV := (need 620 c).bind fun _ => .ret s
theorem cond_s {f : FuncId} {args : List SV} {c : Bool} {s0 : SV} (h : c = true → ∀ (ρ : Names) vals (w : World), denL ρ args = some vals → Calls P f vals.toArray w fun e w' => ∃ x, e = .returned x ∧ den ρ s0 = some x ∧ Mod [] w w') {st st' : St R} {s : SV} (hx : condX c s0 st = .ok s st') : CallS A P f args st st' s := by
  obtain ⟨_, st1, h1, h2⟩ := bind_ok.1 hx
  obtain ⟨q, hq⟩ := need_ok h1
  obtain ⟨rfl, rfl⟩ := ret_ok.1 h2
  refine ⟨q.fn, fun B F ρ own w vals si hv => (h (hq si.ask) ρ vals w hv).mono fun e w' ⟨x, k1, k2, k3⟩ => ⟨x, ρ, own, k1, k2, Tr.of_quiet q (Tr.idle (si.of_quiet q) k3)⟩⟩
/-- A word in, a value out, where the word fits. -/
def primW (f : FuncId) (k : Int → SV) (more : FuncId → List SV → Option (M R SV)) : FuncId → List SV → Option (M R SV) := fun g args => match Nat.beq g f with
  | true => match args with
    | [.v (.int .u64 w)] => some (condX (Lit.int .u64 w).wf (k w))
    | _ => more g args
  | false => more g args
theorem primW_ok {f : FuncId} {k : Int → SV} {more : FuncId → List SV → Option (M R SV)} (hs : ∀ w, (Lit.int .u64 w).wf = true → ∀ (ρ : Names) (W : World), Calls P f #[.int .u64 w] W fun e w' => ∃ x, e = .returned x ∧ den ρ (k w) = some x ∧ Mod [] W w') (hm : ∀ f args m, more f args = some m → ∀ st s st', m st = .ok s st' → CallS A P f args st st' s) :
    ∀ g args m, primW f k more g args = some m → ∀ st s st', m st = .ok s st' → CallS A P g args st st' s := by
  intro g args m h st s st' hx
  unfold primW at h
  split at h
  · next hb =>
    obtain rfl := Nat.eq_of_beq_eq_true hb
    split at h
    · next w =>
      injection h with h
      subst h
      refine cond_s (fun hw ρ vals W hv => ?_) hx
      simp only [denL, den, Option.some.injEq] at hv
      subst hv
      exact hs w hw ρ W
    · exact hm _ _ _ h st s st' hx
  · exact hm _ _ _ h st s st' hx
end
theorem word_pos {w : Int} (h : (Lit.int .u64 w).wf = true) : 0 ≤ w ∧ w < 18446744073709551616 := by
  simp [Lit.wf, IntKind.min, IntKind.max, IntKind.signed, IntKind.bits] at h
  omega
theorem refSlot {w : Int} (h : (Lit.int .u64 w).wf = true) : IntKind.i64.wrap ((IntKind.u64.wrap (w.tdiv 1099511627776)).tmod 8388608) = lkSlot w := by
  have hw := word_pos h
  rw [lkSlot_eq hw.1, Int.tdiv_eq_ediv_of_nonneg hw.1, wrapU (x := w / 1099511627776) (by omega) (by omega), Int.tmod_eq_emod_of_nonneg (by omega), wrapI (by omega) (by omega)]
theorem refMark {w : Int} (h : (Lit.int .u64 w).wf = true) : decide (w ≥ 9223372036854775808) = lkMark w := by
  have hw := word_pos h
  rw [lkMark_eq hw.1 hw.2]
theorem slotR {w : Int} (h : (Lit.int .u64 w).wf = true) (ρ : Names) (W : World) : Calls Tryz.prog 70 #[.int .u64 w] W fun e w' => ∃ x, e = .returned x ∧ den ρ (.v (.int .i64 (lkSlot w))) = some x ∧ Mod [] W w' := by
  refine (good_calls (args := [.v (.int .u64 w)]) (x := .int .i64 (IntKind.i64.wrap ((IntKind.u64.wrap (w.tdiv 1099511627776)).tmod 8388608))) ⟨[], [], _, by kernel_rfl, trivial, rfl⟩ rfl W).mono fun e w' ⟨he, hm⟩ => ⟨_, he, ?_, hm⟩
  rw [refSlot h]
  rfl
theorem markR {w : Int} (h : (Lit.int .u64 w).wf = true) (ρ : Names) (W : World) : Calls Tryz.prog 88 #[.int .u64 w] W fun e w' => ∃ x, e = .returned x ∧ den ρ (.v (.bool (lkMark w))) = some x ∧ Mod [] W w' := by
  refine (good_calls (args := [.v (.int .u64 w)]) (x := .bool (decide (w ≥ 9223372036854775808))) ⟨[], [], _, by kernel_rfl, trivial, rfl⟩ rfl W).mono fun e w' ⟨he, hm⟩ => ⟨_, he, ?_, hm⟩
  rw [refMark h]
  rfl
noncomputable abbrev primR13 : FuncId → List SV → Option (M Rep SV) := primW 70 (fun w => .v (.int .i64 (lkSlot w))) (primW 88 (fun w => .v (.bool (lkMark w))) primUP)
theorem primR13_ok : ∀ f args m, primR13 f args = some m → ∀ st s st', m st = .ok s st' → CallS repAt Tryz.prog f args st st' s := primW_ok (fun w h ρ W => slotR h ρ W) (primW_ok (fun w h ρ W => markR h ρ W) primUP_ok)
end Go.Proofs.YtpaiejeipghehaaGreat
end
section
/- The awake of layer 15: true. No condition. -/
namespace Go.Proofs.YtpaiejeipghehaaGreat
set_option maxRecDepth 100000 in
theorem awake15 (w : World) : Calls Tryz.prog 6 #[] w fun e w' => e = .returned (.bool true) ∧ Mod [] w w' := closed_true run0_ok (by kernel_rfl) w
noncomputable abbrev run15 : FuncId → List SV → M Rep SV := callX Tryz.prog (lib0.with (Tab.one 6 kTrue)) 10000
theorem run15_ok : CallOK repAt Tryz.prog run15 := callX_s mixed (Lib.with_ok lib0_ok (TabOK.true awake15)) 10000
end Go.Proofs.YtpaiejeipghehaaGreat
end
section
/- The executor with all that the laws of layer 15 call known. No condition. -/
namespace Go.Proofs.YtpaiejeipghehaaGreat
noncomputable abbrev primSE : FuncId → List SV → Option (M Rep SV) := primS ndF ndSpec (primS lyF lySpec (primS laF laSpec (primS meF meSpec primR13)))
noncomputable abbrev libSE : Lib Rep := ((lib0.with ((Tab.one 6 kTrue).or tabL)).cells).more primSE
theorem libSE_ok : LibOK repAt Tryz.prog libSE := Lib.more_ok (Lib.cells_ok (Lib.with_ok lib0_ok ((TabOK.true awake15).or tabL_ok))) (primS_ok nd_sub (primS_ok ly_sub (primS_ok la_sub (primS_ok me_sub primR13_ok))))
end Go.Proofs.YtpaiejeipghehaaGreat
end
section
/- SeekExact: the states at its loop's head. No condition. -/
namespace Go.Proofs.YtpaiejeipghehaaGreat
noncomputable abbrev seF : FuncId := 4
noncomputable abbrev seZ : Nat := slotsOf Tryz.prog seF
noncomputable def seL : Code × List Fr := loopOf Tryz.prog seF 0
noncomputable def seC : Code × List Fr := cutIn seL.1 23
abbrev seQ : Ex → Sym Rep → Prop := Ends Tryz.prog Tryz.f4 fun l _ => l = [.v (.bool true)]
structure SEA where
  S : Nat → Int
  K : Nat → Int
  V : Nat → Int
  M : Nat → Bool
  len : Nat
  root : Int
  key : Int
  vals : Bool
  AK : Nat → Int
  A0 : Nat → Int
  A1 : Nat → Int
  A2 : Nat → Int
  AW : Nat → Int
  alen : Nat
abbrev seCore (E rolls : Int) : List SV := [iv 2, iv 1000, iv 3, iv 1, iv 1073741824, iv E, .v (.slice none 0 0), iv 0, iv 0, iv rolls]
/-- With lanes: the counts at hand, those taken, both memories, the lanes at program place p (document's P). -/
def seSt (cut : Bool) (a : SEA) (i : Int) (on : Bool) (E rolls : Int) (G F : Pl → Int) (n k : Nat) (c0 c1 c2 c3 c4 d0 d1 d2 d3 d4 : Int) (a0 a1 a2 p P W X KW VW C D : Int) (fd fr : Bool) : Sym Rep :=
  ⟨[(11, .ptr 0 0), (13, .ptr 1 0), (17, .ptr 2 0), (16, .ptr 3 0), (18, .ptr 4 0), (15, .ptr 5 0), (14, .ptr 6 0), (4, .tsl 7 a.alen), (19, iv i)],
   [(0, .rep (.ucells [] F k)), (1, .row [.ptr 8 0] 153), (2, .row [iv a.root, uv a.key, .v (.bool a.vals), .v (.bool on), .ptr 9 0] 77), (3, .row [.ptr 6 0, iv a.root, uv a.key, .v (.bool a.vals), .ptr 10 0, .v (.bool on)] 137),
    (4, .row [iv d0, iv d1, iv d2, iv d3, iv d4] 80), (5, .row [iv 2, iv 1000, iv 3, iv 1, iv 1073741824, iv E, .v (.slice none 0 0), iv 0, iv 0, iv rolls] 45),
    (6, .row [iv 2, iv 1000, iv 3, iv 1, iv 1073741824, iv E, .ptr 11 0, iv 0, iv 0, iv rolls] 122), (7, .rep (.tab [.int .i64 a.AK, .int .i64 a.A0, .int .i64 a.A1, .int .i64 a.A2, .int .u64 a.AW] a.alen)),
    (8, .row [.mp 12, iv c0, iv c1, iv c2, iv c3, iv c4] 176), (9, .row [iv a0, iv a1, iv a2, iv 0, uv a.key, .v (.bool a.vals), iv P, uv W, uv X, uv KW, uv VW, iv D, .v (.bool fr)] 57),
    (10, .row [.ptr 6 0, iv a0, iv a1, iv a2, iv 0, iv 0, uv a.key, .v (.bool a.vals), iv p, uv W, iv 0, .v (.bool false), uv X, iv 0, .v (.bool false), uv KW, iv 0, .v (.bool false), uv VW, iv 0, .v (.bool false), iv C, iv 0, .v (.bool fd)] 127),
    (11, .row [.sl 13 0 0 4, uv 0, uv 0] 160), (12, .rep (.pmap [] G n)), (13, .row [iv 0, iv 0, iv 0, iv 0, iv 0, iv 0, iv 0, iv 0, iv 0, iv 0, iv 0, iv 0] 182)], 14⟩
def seS := seSt false
def seCfg : Goer → List Gen × List Nat
  | .out .ret => ([], [10])
  | _ => ([.map 0, .map 12], [11, 13, 17, 16, 18, 15, 14, 4, 19])
/-- Behind a step: its state st. -/
def seT (a : SEA) (i : Int) (on : Bool) (E rolls : Int) (G F : Pl → Int) (n k : Nat) (c0 c1 c2 c3 c4 d0 d1 d2 d3 d4 : Int) (a0 a1 a2 p P W X KW VW C D : Int) (fd fr : Bool) (st : Int) : Sym Rep :=
  ⟨[(11, .ptr 0 0), (13, .ptr 1 0), (17, .ptr 2 0), (16, .ptr 3 0), (18, .ptr 4 0), (15, .ptr 5 0), (14, .ptr 6 0), (4, .tsl 7 a.alen), (19, iv i), (20, iv st)],
   (seS a i on E rolls G F n k c0 c1 c2 c3 c4 d0 d1 d2 d3 d4 a0 a1 a2 p P W X KW VW C D fd fr).hp, 14⟩
noncomputable def seD : Code × List Fr := cutIn seL.1 26
def seCfgT : Goer → List Gen × List Nat
  | .out .ret => ([], [10])
  | .out _ => ([.map 0, .map 12], [11, 13, 17, 16, 18, 15, 14, 4, 19])
  | _ => ([.map 0, .map 12], [11, 13, 17, 16, 18, 15, 14, 4, 19, 20])
def SEA.ok (a : SEA) : Prop := plWfB (4, 0, a.root) = true ∧ ∀ j, j < a.alen → plWfB (a.A0 j, a.A1 j, a.A2 j) = true ∧ (Lit.int .u64 (a.AW j)).wf = true
/-- What is kept; t: how much is used up within a round. -/
structure SEP (a : SEA) (t i E : Int) (F : Pl → Int) (n k : Nat) (c0 c1 c2 c3 c4 a0 a1 a2 W X KW VW C : Int) : Prop where
  i0 : 0 ≤ i
  i1 : i ≤ 300
  hn : (n : Int) ≤ 200 + 2 * i + t
  hk : (k : Int) ≤ 200 + 2 * i + t
  hF : WfG F
  e0 : 0 ≤ E
  e1 : E < 9223372036854775808
  c0a : 0 ≤ c0
  c0b : c0 ≤ 200 + 2 * i + t
  c1a : 0 ≤ c1
  c1b : c1 ≤ 200 + 2 * i + t
  c2a : 0 ≤ c2
  c2b : c2 ≤ 200 + 2 * i + t
  c4a : 0 ≤ c4
  c4b : c4 ≤ 200 + 2 * i + t
  hp : plWfB (a0, a1, a2) = true
  hW : (Lit.int .u64 W).wf = true
  hX : (Lit.int .u64 X).wf = true
  hK : (Lit.int .u64 KW).wf = true
  hV : (Lit.int .u64 VW).wf = true
  C0 : 0 ≤ C
  C1 : C ≤ 8388607
  ok : a.ok
def seP (a : SEA) (i : Int) (_on : Bool) (E _rolls : Int) (G F : Pl → Int) (n k : Nat) (c0 c1 c2 c3 c4 d0 d1 d2 d3 d4 : Int) (a0 a1 a2 p P W X KW VW C D : Int) (fd fr : Bool) : Prop :=
  G = F ∧ D = C ∧ fr = fd ∧ (p ≤ 6 → fd = false) ∧ d0 = c0 ∧ d1 = c1 ∧ d2 = c2 ∧ d3 = c3 ∧ d4 = c4 ∧ ((p = 0 ∧ P = 0) ∨ (1 ≤ p ∧ p ≤ 8 ∧ P = p + 1)) ∧ SEP a 0 i E F n k c0 c1 c2 c3 c4 a0 a1 a2 W X KW VW C
def seP2 (a : SEA) (i : Int) (_on : Bool) (E _rolls : Int) (G F : Pl → Int) (n k : Nat) (c0 c1 c2 c3 c4 d0 d1 d2 _d3 d4 : Int) (a0 a1 a2 p P W X KW VW C D : Int) (fd fr : Bool) (st : Int) : Prop :=
  G = F ∧ D = C ∧ fr = fd ∧ (st = 0 → p ≤ 6 → fd = false) ∧ i < 300 ∧ c1 = d1 ∧ c0 + c1 + c2 + c4 = d0 + d1 + d2 + d4 + 1 ∧ (st = 0 ∨ st = 1) ∧ (0 ≤ d0 ∧ 0 ≤ d2 ∧ 0 ≤ d4) ∧ ((p = 0 ∧ P = 0) ∨ (1 ≤ p ∧ p ≤ 8 ∧ P = p + 1)) ∧ SEP a 2 i E F n k c0 c1 c2 c3 c4 a0 a1 a2 W X KW VW C
theorem se_up {a : SEA} {i E : Int} {F : Pl → Int} {n k : Nat} {c0 c1 c2 c3 c4 a0 a1 a2 W X KW VW C : Int} (h : SEP a 2 i E F n k c0 c1 c2 c3 c4 a0 a1 a2 W X KW VW C) (hi : i < 300) : SEP a 0 (IntKind.i64.wrap (i + 1)) E F n k c0 c1 c2 c3 c4 a0 a1 a2 W X KW VW C := by
  obtain ⟨i0, i1, hn, hk, hF, e0, e1, c0a, c0b, c1a, c1b, c2a, c2b, c4a, c4b, hp, hW, hX, hK, hV, C0, C1, hok⟩ := h
  rw [wrapI (by omega) (by omega)]
  constructor <;> first | assumption | omega
theorem se_less {i : Int} (i0 : 0 ≤ i) (hi : i < 300) {r : Nat} (hr : r = 300 - i.toNat) : 300 - (IntKind.i64.wrap (i + 1)).toNat < r := by
  rw [wrapI (by omega) (by omega)]
  omega
theorem WfG.put {F : Pl → Int} (h : WfG F) {w : Int} (hw : (Lit.int .u64 w).wf = true) (p : Pl) : WfG (getL [(p, w)] F) := fun q => by
  simp only [getL]
  split
  · exact hw
  · exact h q
theorem lkWord_wf (m : Bool) (s v : Int) : (Lit.int .u64 (lkWord m s v)).wf = true := by
  have h := lkWord_lt (m := m) (s := s) (v := v)
  simp [Lit.wf, IntKind.min, IntKind.max, IntKind.signed, IntKind.bits]
  omega
theorem lkSlot_le {w : Int} (h : (Lit.int .u64 w).wf = true) : 0 ≤ lkSlot w ∧ lkSlot w ≤ 8388607 := by
  have hw := word_pos h
  rw [lkSlot_eq hw.1]
  omega
theorem slot_wf {C : Int} (h0 : 0 ≤ C) (h1 : C ≤ 8388607) : (Lit.int .i64 C).wf = true := by
  simp [Lit.wf, IntKind.min, IntKind.max, IntKind.signed, IntKind.bits]
  omega
theorem cell_wf {C b : Int} (h0 : 0 ≤ C) (h1 : C ≤ 8388607) (hb : (Lit.int .i64 b).wf = true) : plWfB (5, C, b) = true := pl_wf (by decide) (slot_wf h0 h1) hb
theorem put_se {p : Pl} {w : Int} {n : Nat} (hp : plWfB p = true) (hw : (Lit.int .u64 w).wf = true) (h0 : (w == 0) = false) (hn : (n : Int) ≤ 100000) : (plWfB p && (Lit.int .u64 w).wf && w != 0 && decide (n < maxLen)) = true := by
  rw [hp, hw, bne, h0]
  simp only [Bool.not_false, Bool.and_true, Bool.true_and, decide_eq_true_eq]
  unfold maxLen
  omega
theorem wrapI_mod (x : Int) : IntKind.i64.wrap x = (x + 9223372036854775808) % 18446744073709551616 - 9223372036854775808 := by
  unfold IntKind.wrap
  simp [IntKind.bits, IntKind.signed]
  omega
theorem get_put_zero {F : Pl → Int} {p : Pl} {w : Int} (h : (w == 0) = true) : getL [(p, 0)] F = getL [(p, w)] F := by rw [beq_iff_eq.1 h]
end Go.Proofs.YtpaiejeipghehaaGreat
end
