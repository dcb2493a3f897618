/- Paths of a body, and a call by its body's rule. Condition: the program follows the looser reading of Go's order. -/
import Derived.Test.YtjediiajmnlonaaF2
import Derived.Test.YtjediiajmnlonaaES
namespace Go.Proofs.Ytjediiajmnlonaa

section
variable {R : Type}
/-- A path: where it comes to, in names anew; and its tests. -/
def pathX (P : Program) (lib : Lib R) (n sz k j : Nat) (pins vars : List Nat) (g : Goer) (fs : List Fr) (s : Sym R) (o : List (Option Bool)) : Option (Goer × List Fr × Sym R × List (Bool × Bool)) := match stepC P lib n sz k j g fs s.e ⟨s.hp, s.nx, [], [], [], o⟩ with
  | .ok r st => match canonX pins vars ⟨r.env, st.hp, st.nx⟩ with
    | some s' => some (r.next.1, r.next.2, s', st.ask)
    | none => none
  | .no _ _ => none
variable {A : RepAt R} {P : Program} {lib : Lib R} {n sz pin k j : Nat} {g g' : Goer} {fs fs' : List Fr} {s s' : Sym R} {Q : Ex → Sym R → Prop}
theorem Tri.path (hm : P.follows .mixedOrders = true) (hl : LibOK A P lib) {vars : List Nat} {o : List (Option Bool)} {asks : List (Bool × Bool)} (h : pathX P lib n sz k j (List.range pin) vars g fs s o = some (g', fs', s', asks)) (ha : AllAsk asks) (hpin : pin ≤ s.nx)
    (ht : Tri A P sz pin g' fs' s' Q) : Tri A P sz pin g fs s Q := by
  unfold pathX at h
  split at h
  · next r st hr =>
    split at h
    · next s1 hs =>
      simp only [Option.some.injEq, Prod.mk.injEq] at h
      obtain ⟨rfl, rfl, rfl, rfl⟩ := h
      exact Tri.run hm hl hr ha.all hpin (Tri.view (canon_view hs) ht)
    · cases h
  · cases h

/-- The loops of a body, each with what stands round it; those within loops are left out. -/
def loopsC : Code → List Fr → List (Code × List Fr)
  | .seq a b, fs => loopsC a (.sq b :: fs) ++ loopsC b fs
  | .block id c, fs => loopsC c (.bk id :: fs)
  | .cond _ a b, fs => loopsC a fs ++ loopsC b fs
  | .loop c, fs => [(c, fs)]
  | _, _ => []
def lpAt (l : List (Code × List Fr)) (i : Nat) : Code × List Fr := match l[i]? with
  | some x => x
  | none => (.skip, [])
def loopOf (P : Program) (f : FuncId) (i : Nat) : Code × List Fr := lpAt (loopsC (bodyOf P f) []) i
def loopIn (p : Code × List Fr) (i : Nat) : Code × List Fr := lpAt (loopsC p.1 []) i

/-- What a body's end hands back. -/
def Ends (P : Program) (fn : Func) (T : List SV → Sym R → Prop) (x : Ex) (s : Sym R) : Prop := (x = .ret ∨ x = .nor) ∧ ∃ l st, resX P s.e fn.results.toList (⟨s.hp, s.nx, [], [], [], []⟩ : St R) = .ok l st ∧ T l s
theorem Ends.one {P : Program} {fn : Func} {x : Ex} {s : Sym R} {t : Nat} {v : SV} (hr : fn.results.toList = [.tmp t]) (hx : x = .ret ∨ x = .nor) (he : elook t s.e = some v) : Ends P fn (fun l _ => l = [v]) x s := by
  refine ⟨hx, [v], ⟨s.hp, s.nx, [], [], [], []⟩, ?_, rfl⟩
  rw [hr]
  simp only [resX, M.bind, M.opt, he, M.ret]
def argsE (args : List SV) : Env := args.zipIdx.map fun p => (p.2, p.1)
theorem argsE_den {ρ : Names} {args : List SV} {vals : List Value} (h : denL ρ args = some vals) (m : Nat) : EnvR ρ (argsE args) { tmps := vals.toArray ++ Array.replicate m undef, defers := [] } := fun t s hs => by
  obtain ⟨_, h9⟩ := elook_zip hs
  rw [Nat.sub_zero] at h9
  obtain ⟨x, g1, g2⟩ := denL_get h h9
  refine ⟨x, ?_, g1⟩
  rw [Array.getElem?_append_left (by rw [List.size_toArray]; exact lt_of_some g2), List.getElem?_toArray]
  exact g2

theorem Tri.calls {f : FuncId} {fn : Func} {c : Code} (hf : P.funcs[f]? = some fn) (hb : fn.body = some c) {args : List SV} {hp : List (Nat × Chunk R)} {nx : Nat} {T : List SV → Sym R → Prop} (hle : args.length ≤ fn.ntmps)
    (h : Tri A P fn.ntmps pin (.go c) [] ⟨argsE args, hp, nx⟩ (Ends P fn T)) {B : Nat} {ρ : Names} {own : Nat → List Nat} {w : World} (hs : Stand A P B ⟨argsE args, hp, nx⟩ ρ own w) {vals : List Value} (hv : denL ρ args = some vals) :
    Calls P f vals.toArray w fun e w' => ∃ y l s' ρ' own', e = .returned y ∧ den ρ' (oneOf l) = some y ∧ T l s' ∧ Stand A P B s' ρ' own' w' ∧ Way hp own w s'.hp own' w' ∧ ∀ n, n < pin → ρ' n = ρ n := by
  have hlen := denL_length hv
  refine calls_of_wp hf hb ?_
  refine h B ρ own w _ hs (argsE_den hv _) (by simp; omega) _ (fun x s' ρ' own' w' a' ⟨hx, l, st, hres, ht⟩ hs' he hz hd hw hpp => ?_)
  obtain ⟨q, hr⟩ := res_s (A := A) (sz := fn.ntmps) hres
  obtain ⟨vs, g1, g2⟩ := hr B (fun _ => True) ρ' own' w' a' hs'.li (fun _ _ => trivial) he hz
  have hr : (results fn a'.tmps).run P w' = .ok (if h : vs.length = 1 then vs[0] else .tuple vs.toArray) w' := by
    have e : results fn a'.tmps = (do
        let vs ← fn.results.mapM (resOp a'.tmps)
        pure (if h : vs.size = 1 then vs[0] else .tuple vs)) := rfl
    rw [e, Array.mapM_eq_mapM_toList]
    simp only [Sem.run_bind, Sem.run_map, g2, Result.andThen_ok, Sem.run_pure]
    congr 1
  have hone : den ρ' (oneOf l) = some (if h : vs.length = 1 then vs[0] else .tuple vs.toArray) := by
    have hl := denL_length g1
    cases l with
    | nil =>
      simp only [denL, Option.some.injEq] at g1
      subst g1
      rfl
    | cons x l =>
      obtain ⟨y, ys, g3, g4, rfl⟩ := denL_cons.1 g1
      cases l with
      | nil =>
        simp only [denL, Option.some.injEq] at g4
        subst g4
        simpa [oneOf] using g3
      | cons z l =>
        simp only [List.length_cons] at hl
        rw [dif_neg (by simp only [List.length_cons]; omega)]
        simp only [oneOf, den, g1, Option.map_some]
  have hpost : ∃ v, (results fn a'.tmps).run P w' = .ok v w' ∧ ∃ y l s' ρ' own', Ending.returned v = .returned y ∧ den ρ' (oneOf l) = some y ∧ T l s' ∧ Stand A P B s' ρ' own' w' ∧ Way hp own w s'.hp own' w' ∧ ∀ n, n < pin → ρ' n = ρ n := ⟨_, hr, _, l, s', ρ', own', rfl, hone, ht, hs', hw, hpp⟩
  rcases hx with rfl | rfl
  · exact ⟨hd, hpost⟩
  · exact ⟨hd, hpost⟩

/-- A law's call: it answers true, and what was there is as it was. -/
theorem Tri.law {f : FuncId} {fn : Func} {c : Code} (hf : P.funcs[f]? = some fn) (hb : fn.body = some c) {args : List SV} {hp : List (Nat × Chunk R)} {nx : Nat} (hle : Nat.ble args.length fn.ntmps = true)
    (h : Tri A P fn.ntmps 0 (.go c) [] ⟨argsE args, hp, nx⟩ (Ends P fn fun l _ => l = [.v (.bool true)])) {ρ : Names} {own : Nat → List Nat} {w : World} (hs : Stand A P w.heap.size ⟨argsE args, hp, nx⟩ ρ own w) {vals : List Value} (hv : denL ρ args = some vals) :
    Calls P f vals.toArray w fun e w' => e = .returned (.bool true) ∧ Mod [] w w' := by
  refine (Tri.calls hf hb (Nat.le_of_ble_eq_true hle) h hs hv).mono fun e w' ⟨y, l, s', ρ', own', he, hy, hl, _, hw, _⟩ => ?_
  subst hl
  simp only [oneOf, den, Option.some.injEq] at hy
  subst hy
  refine ⟨he, hw.mod.mod fun b hb ⟨n, d, hd, hn⟩ => ?_⟩
  have := (hs.li.low n d trivial hd b hn).1
  omega
end
end Go.Proofs.Ytjediiajmnlonaa
