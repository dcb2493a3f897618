/- A rule for statements whose order Go leaves open: each operation but the last ones makes new memory at most, and its value is known up to a relation that new memory leaves alone: then one walk in the order of the text serves every order. No condition. -/
import Derived.Test.YtjediiajmnlonaaBase
import Derived.Test.YtjediiajmnlonaaSlices
import Derived.StillTail
import Derived.Deep.RegionHeld3
import Derived.Tactics
import Derived.Tactics2
namespace Go.Proofs.Ytjediiajmnlonaa
open Go.RowKit

/-- What is known of a value, and stays known when new memory is made. -/
structure Stab where
  R : Value → World → Prop
  st : ∀ v w1 w2, R v w1 → Mod [] w1 w2 → R v w2
def Stab.top : Stab := ⟨fun _ _ => True, fun _ _ _ _ _ => trivial⟩
def Stab.det (e : Value) : Stab := ⟨fun v _ => v = e, fun _ _ _ h _ => h⟩

section
variable {P : Program} {ops : Array Oper} {Q : Exit → Act → World → Prop}

/-- What is asked of a call. -/
def relPost (w : World) (r : Stab) (e : Ending) (w3 : World) : Prop := ∃ v, e = .returned v ∧ Mod [] w w3 ∧ r.R v w3
theorem relPost_det {w w3 : World} {v : Value} (h : Mod [] w w3) : relPost w (Stab.det v) (.returned v) w3 := ⟨v, rfl, h, rfl⟩
theorem relPost_by {w w3 : World} {r : Stab} {v : Value} (h : Mod [] w w3) (hr : r.R v w3) : relPost w r (.returned v) w3 := ⟨v, rfl, h, hr⟩

def relUpon (P : Program) (w : World) (r : Stab) : Result Next → Prop
  | .ok (.value v) w2 => Mod [] w w2 ∧ r.R v w2
  | .ok .skip w2 => Mod [] w w2 ∧ r.R undef w2
  | .ok (.enter f args) w2 => Calls P f args w2 (relPost w r)
  | _ => False

def relAt (P : Program) (ops : Array Oper) (o : Oper) (a : Act) (w : World) (r : Stab) : Prop :=
  if Region.wanted o (yielded ops a.tmps) = true then relUpon P w r ((execOp a.eval o).run P w) else r.R undef w

def dstOf (ops : Array Oper) (j : Nat) : Option Tmp := (ops[j]?).bind (·.dst)

/-- The values of earlier operations laid into the frame. -/
def withDeps (Rs : List Stab) (w : World) : List (Nat × Tmp) → Act → (Act → Prop) → Prop
  | [], a, F => F a
  | p :: ds, a, F => ∀ v, (Rs.getD p.1 Stab.top).R v w → withDeps Rs w ds (a.put (some p.2) v) F

/-- One operation after the other, in the order of the text ('none': a bare copy of a variable, taken ahead of all). -/
def relWalk (P : Program) (ops : Array Oper) (w : World) (a : Act) : List Oper → List (Option (List (Nat × Tmp))) → List Stab → (List Stab → Prop) → Prop
  | o :: l, some d :: ds, Rs, F => ∃ r : Stab, (∀ w', Mod [] w w' → withDeps Rs w' d a fun a' => relAt P ops o a' w' r) ∧ relWalk P ops w a l ds (Rs ++ [r]) F
  | _ :: l, none :: ds, Rs, F => relWalk P ops w a l ds (Rs ++ [Stab.top]) F
  | _, [], Rs, F => F Rs
  | [], _ :: _, _, _ => False

def isPre (ds : List (Option (List (Nat × Tmp)))) (i : Nat) : Bool := match ds[i]? with | some none => true | _ => false

def sinkP (ops : Array Oper) (n : Nat) (ds : List (Option (List (Nat × Tmp)))) : Bool :=
  (List.range n).all fun i => isPre ds i || (List.range (n + 1)).any fun j => decide (i < j) && Region.waitsFor .any ops j i

/-- The bare copies, one behind the other. -/
def preB (ops : Array Oper) : List Nat → Array Bool → Bool
  | [], _ => true
  | i :: is, listed => (match ops[i]? with
    | some o => (match o.op with | .move _ => true | _ => false) && decide (o.guard = none)
    | none => false) && (Region.ready .any ops listed).contains i && Region.free .any ops listed i && preB ops is (listed.setIfInBounds i true)

def preAct (ops : Array Oper) : List Nat → Act → Act
  | [], a => a
  | i :: is, a => preAct ops is (match ops[i]? with
    | some o => (match o.op with | .move x => a.put o.dst (a.eval x) | _ => a)
    | none => a)

def pres (ds : List (Option (List (Nat × Tmp)))) : List Nat := (List.range ds.length).filter (isPre ds)

def relB (ops : Array Oper) (ds : List (Option (List (Nat × Tmp)))) (hs : List (Nat × Tmp)) (size : Nat) : Bool :=
  let n := ds.length
  Region.noSelect ops && decide (n ≤ ops.size) && (decide (n = ops.size) || (sinkP ops n ds && Region.chainB .any ops n)) &&
  preB ops (pres ds) (Array.replicate ops.size false) &&
  decide (hs = (List.range n).filterMap fun j => if isPre ds j then none else (dstOf ops j).map fun d => (j, d)) &&
  hs.all (fun p => decide (p.2 < size)) &&
  ((List.range n).all fun i => match ops[i]?, ds[i]? with
    | some o, some d =>
      (o.after.all fun e => !Region.binds .any e || decide (e.on < i)) &&
      ((d.getD []).all fun p => decide (p.1 < i) && decide (dstOf ops p.1 = some p.2) && Region.waitsFor .any ops i p.1 && !isPre ds p.1) &&
      ((o.looksAt ops).all fun t => (d.getD []).any (fun p => p.2 == t) || (List.range n).all fun j => isPre ds j || decide (dstOf ops j ≠ some t)) &&
      ((List.range n).all fun j => decide (j = i) || decide (dstOf ops i = none) || decide (dstOf ops j ≠ dstOf ops i))
    | _, _ => false) &&
  Region.seqB .any ops (ops.size - n) n ((Array.range ops.size).map fun i => decide (i < n))

theorem withDeps_elim {Rs : List Stab} {w : World} {a : Act} {F : Act → Prop} : ∀ (ds : List (Nat × Tmp)) (b : Act), withDeps Rs w ds b F →
    (∀ p ∈ ds, ∃ v, a.tmps[p.2]? = some v ∧ (Rs.getD p.1 Stab.top).R v w) → a.tmps.size = b.tmps.size →
    ∃ b', F b' ∧ b'.defers = b.defers ∧ b'.tmps.size = b.tmps.size ∧ (∀ p ∈ ds, b'.tmps[p.2]? = a.tmps[p.2]?) ∧ (∀ t, (∀ p ∈ ds, p.2 ≠ t) → b'.tmps[t]? = b.tmps[t]?)
  | [], b, h, _, _ => ⟨b, h, rfl, rfl, (fun p hp => by cases hp), fun _ _ => rfl⟩
  | p :: ds, b, h, hv, hs => by
    obtain ⟨v, hv1, hv2⟩ := hv p (List.mem_cons_self ..)
    have hlt : p.2 < b.tmps.size := by
      rw [← hs]
      exact (Array.getElem?_eq_some_iff.1 hv1).1
    obtain ⟨b', hF, h1, h2, h3, h4⟩ := withDeps_elim ds (b.put (some p.2) v) (h v hv2) (fun q hq => hv q (List.mem_cons_of_mem _ hq)) (by simpa [Act.put] using hs)
    refine ⟨b', hF, by simpa [Act.put] using h1, by simpa [Act.put] using h2, fun q hq => ?_, fun t ht => ?_⟩
    · by_cases hin : q ∈ ds
      · exact h3 q hin
      · obtain rfl : q = p := (List.mem_cons.1 hq).resolve_right hin
        by_cases hx : ∃ r ∈ ds, r.2 = q.2
        · obtain ⟨r, hr, he⟩ := hx
          rw [← he]
          exact h3 r hr
        · rw [h4 q.2 (fun r hr he => hx ⟨r, hr, he⟩), hv1]
          simp [Act.put, hlt]
    · rw [h4 t (fun r hr => ht r (List.mem_cons_of_mem _ hr))]
      simp [Act.put, Array.getElem?_setIfInBounds_ne (ht p (List.mem_cons_self ..))]

/-- What the walk has laid down. -/
theorem relWalk_elim {w : World} {a : Act} {F : List Stab → Prop} : ∀ (l : List Oper) (ds : List (Option (List (Nat × Tmp)))) (Rs : List Stab), relWalk P ops w a l ds Rs F →
    ∃ Rs', F Rs' ∧ (∀ j, j < Rs.length → Rs'[j]? = Rs[j]?) ∧ ∀ i o d, l[i]? = some o → ds[i]? = some (some d) → (∀ q ∈ d, q.1 < Rs.length + i) → ∃ r, Rs'[Rs.length + i]? = some r ∧ ∀ w', Mod [] w w' → withDeps Rs' w' d a fun a' => relAt P ops o a' w' r
  | l, [], Rs, h => ⟨Rs, by cases l <;> exact h, fun _ _ => rfl, (fun i o d _ hd => by simp at hd)⟩
  | [], _ :: _, Rs, h => h.elim
  | o :: rest, none :: ds, Rs, h => by
    obtain ⟨Rs', hF, ha, hb⟩ := relWalk_elim rest ds (Rs ++ [Stab.top]) h
    have hpre : ∀ j, j < Rs.length → Rs'[j]? = Rs[j]? := fun j hj => by
      rw [ha j (by simp; omega), List.getElem?_append_left hj]
    refine ⟨Rs', hF, hpre, fun i q d hq hd hlt => ?_⟩
    cases i with
    | zero => simp at hd
    | succ i =>
      obtain ⟨r', h3, h4⟩ := hb i q d (by simpa using hq) (by simpa using hd) (fun x hx => by have := hlt x hx; simp; omega)
      refine ⟨r', ?_, h4⟩
      rw [← h3]
      congr 1
      simp
      omega
  | o :: rest, some d0 :: ds, Rs, h => by
    obtain ⟨r, h1, h2⟩ := h
    obtain ⟨Rs', hF, ha, hb⟩ := relWalk_elim rest ds (Rs ++ [r]) h2
    have hpre : ∀ j, j < Rs.length → Rs'[j]? = Rs[j]? := fun j hj => by
      rw [ha j (by simp; omega), List.getElem?_append_left hj]
    refine ⟨Rs', hF, hpre, fun i q d hq hd hlt => ?_⟩
    cases i with
    | zero =>
      simp only [List.getElem?_cons_zero, Option.some.injEq] at hq hd
      subst hq
      subst hd
      refine ⟨r, by rw [Nat.add_zero, ha _ (by simp)]; simp, fun w' hw' => ?_⟩
      have h3 := h1 w' hw'
      have hcong : ∀ (ds : List (Nat × Tmp)) (b : Act) (G : Act → Prop), (∀ q ∈ ds, q.1 < Rs.length) → withDeps Rs w' ds b G → withDeps Rs' w' ds b G := by
        intro ds
        induction ds with
        | nil => exact fun _ _ _ h => h
        | cons d ds ih =>
          intro b G hd hh v hv
          refine ih _ _ (fun q hq => hd q (List.mem_cons_of_mem _ hq)) (hh v ?_)
          have he := hpre d.1 (hd d (List.mem_cons_self ..))
          simp only [List.getD_eq_getElem?_getD, he] at hv ⊢
          exact hv
      exact hcong _ _ _ (fun q hq => by have := hlt q hq; omega) h3
    | succ i =>
      obtain ⟨r', h3, h4⟩ := hb i q d (by simpa using hq) (by simpa using hd) (fun x hx => by have := hlt x hx; simp; omega)
      refine ⟨r', ?_, h4⟩
      rw [← h3]
      congr 1
      simp
      omega

structure RInv (ops : Array Oper) (ds : List (Option (List (Nat × Tmp)))) (n : Nat) (Rs : List Stab) (w0 : World) (a0 : Act) (listed : Array Bool) (a : Act) (w : World) : Prop where
  head : HeadInv .any ops n listed
  pre : ∀ i, isPre ds i = true → i < n → listed.getD i false = true
  mod : Mod [] w0 w
  defers : a.defers = a0.defers
  size : a.tmps.size = a0.tmps.size
  done : ∀ j d, j < n → isPre ds j = false → listed.getD j false = true → dstOf ops j = some d → ∃ v, a.tmps[d]? = some v ∧ (Rs.getD j Stab.top).R v w
  rest : ∀ t, (∀ j, j < n → isPre ds j = false → listed.getD j false = true → dstOf ops j ≠ some t) → a.tmps[t]? = a0.tmps[t]?

theorem filter_less {l : List Nat} {p q : Nat → Bool} {i : Nat} (hn : l.Nodup) (hi : i ∈ l) (hp : p i = true) (hq : q i = false) (h : ∀ j, j ≠ i → q j = p j) : (l.filter p).length = (l.filter q).length + 1 := by
  induction l with
  | nil => cases hi
  | cons x l ih =>
    rw [List.nodup_cons] at hn
    by_cases hx : x = i
    · subst hx
      have : l.filter q = l.filter p := List.filter_congr fun j hj => h j (fun e => hn.1 (e ▸ hj))
      rw [List.filter_cons_of_pos hp, List.filter_cons_of_neg (by simp [hq]), this]
      simp
    · have hi' : i ∈ l := (List.mem_cons.1 hi).resolve_left (fun e => hx e.symm)
      have := ih hn.2 hi'
      cases hpx : p x with
      | true => rw [List.filter_cons_of_pos hpx, List.filter_cons_of_pos (by rw [h x hx]; exact hpx)]; simp [this]
      | false => rw [List.filter_cons_of_neg (by simp [hpx]), List.filter_cons_of_neg (by rw [h x hx]; simp [hpx])]; exact this

theorem wanted_same {o : Oper} {a b : Act} (h : ∀ t ∈ o.looksAt ops, a.tmps[t]? = b.tmps[t]?) : Region.wanted o (yielded ops a.tmps) = Region.wanted o (yielded ops b.tmps) := by
  unfold Region.wanted
  cases hg : o.guard with
  | none => rfl
  | some gw =>
    obtain ⟨g, want⟩ := gw
    have hy : yielded ops a.tmps g = yielded ops b.tmps g := by
      unfold yielded
      cases ht : (ops[g]?).bind (·.dst) with
      | none => rfl
      | some t => simp [h t (by simp [Oper.looksAt, hg, ht])]
    simp only [hy]

theorem exec_same {o : Oper} {a b : Act} (hs : ∀ cs b, o.op ≠ .select cs b) (h : ∀ t ∈ o.looksAt ops, a.tmps[t]? = b.tmps[t]?) : execOp a.eval o = execOp b.eval o :=
  execOp_congr o hs fun x hx => by
    cases x with
    | tmp t =>
      have := h t (List.mem_append_left _ (List.mem_filterMap.2 ⟨.tmp t, by simpa using hx, rfl⟩))
      simp only [Act.eval, Array.getD_eq_getD_getElem?, this]
    | _ => rfl

theorem wp_of_relUpon {o : Oper} {a : Act} {w : World} {r : Stab} {K : Act → World → Prop} (h : relUpon P w r ((execOp a.eval o).run P w)) (hK : ∀ v w2, Mod [] w w2 → r.R v w2 → K (a.put o.dst v) w2) : o.wp P a w K Q := by
  unfold Oper.wp
  generalize (execOp a.eval o).run P w = res at *
  cases res with
  | ok x w2 =>
    cases x <;> simp only [relUpon] at h <;> simp only [Oper.upon]
    case value v => exact hK _ _ h.1 h.2
    case skip => exact hK _ _ h.1 h.2
    case enter f args => exact h.mono fun e w3 ⟨v, he, hm, hr⟩ => by subst he; exact hK _ _ hm hr
  | halt x w2 => simp only [relUpon] at h

theorem sinkP_waits {n : Nat} {ds : List (Option (List (Nat × Tmp)))} {listed : Array Bool} (hs : sinkP ops n ds = true) (hc : Region.chainB .any ops n = true) (hn : n < ops.size) (inv : HeadInv .any ops n listed) (hp : ∀ i, isPre ds i = true → i < n → listed.getD i false = true) :
    ∀ (d i : Nat), n - i = d → i < n → listed.getD i true = false → ∀ t, n ≤ t → t ∉ Region.ready .any ops listed := by
  intro d
  induction d using Nat.strongRecOn with
  | _ d ih =>
    intro i hd hi hun t ht hr
    obtain ⟨_, ot, hot, hall⟩ := mem_ready.1 hr
    have htlt : t < ops.size := (Array.getElem?_eq_some_iff.1 hot).1
    by_cases htn : t = n
    · subst htn
      have h1 := List.all_eq_true.1 hs i (List.mem_range.2 hi)
      rw [Bool.or_eq_true] at h1
      rcases h1 with h1 | h1
      · have := hp i h1 hi
        rw [getD_both hun] at this
        cases this
      obtain ⟨j, hj, hj2⟩ := List.any_eq_true.1 h1
      simp only [Bool.and_eq_true, decide_eq_true_eq] at hj2
      obtain ⟨oj, hoj, e, he, hb, hon⟩ := Region.waitsFor_spec hj2.2
      have hjle : j ≤ t := by have := List.mem_range.1 hj; omega
      by_cases hjt : j = t
      · subst hjt
        have : oj = ot := Option.some.inj (hoj.symm.trans hot)
        subst this
        have h2 := hall e he hb
        rw [hon, getD_both hun] at h2
        cases h2
      · cases hl : listed.getD j false with
        | true =>
          have h2 := inv.closed j oj hoj hl e he hb
          rw [hon, getD_both hun] at h2
          cases h2
        | false =>
          have hjs : j < listed.size := by rw [inv.size]; omega
          exact ih (t - j) (by omega) j rfl (by omega) (getD_in hjs hl) t (Nat.le_refl _) hr
    · have h1 := List.all_eq_true.1 hc t (List.mem_range.2 htlt)
      simp only [Bool.or_eq_true, decide_eq_true_eq] at h1
      rcases h1 with h1 | h1
      · omega
      · obtain ⟨o', ho', e, he, hb, hon⟩ := Region.waitsFor_spec h1
        have : o' = ot := Option.some.inj (ho'.symm.trans hot)
        subst this
        have h2 := hall e he hb
        rw [hon, getD_both (inv.tail (t - 1) (by omega) (by omega))] at h2
        cases h2

theorem pre_first {Q : Exit → Act → World → Prop} (hQ : ∀ c a w, ¬ Q (.panic c) a w) (hsel : Region.noSelect ops = true) : ∀ (is : List Nat) (listed : Array Bool) (a : Act) (w : World) (fuel : Nat), preB ops is listed = true →
    wpAny P .any ops Q fuel (is.foldl (fun l i => l.setIfInBounds i true) listed) (preAct ops is a) w → wpAny P .any ops Q (fuel + is.length) listed a w
  | [], _, _, _, _, _, h => h
  | i :: is, listed, a, w, fuel, hB, h => by
    simp only [preB, Bool.and_eq_true] at hB
    obtain ⟨⟨⟨hmv, hr⟩, hf⟩, hB'⟩ := hB
    cases ho : ops[i]? with
    | none => rw [ho] at hmv; cases hmv
    | some o =>
      rw [ho] at hmv
      simp only [Bool.and_eq_true, decide_eq_true_eq] at hmv
      obtain ⟨hmv, hg⟩ := hmv
      cases hop : o.op with
      | move x =>
        simp only [preAct, ho, hop] at h
        have h1 := pre_first hQ hsel is _ _ w fuel hB' h
        have := wpAny_first (v := a.eval x) ho (Region.noSelect_spec hsel) (fun c a w hq => absurd hq (hQ c _ w)) (fuel + is.length) listed a w (Region.free_spec ho hf) (by simpa using hr)
          (.inl ⟨by simp [Region.wanted, hg], fun w => by simp [execOp, hop]⟩) h1
        exact this
      | _ => rw [hop] at hmv; cases hmv

theorem foldl_set {is : List Nat} {listed : Array Bool} : (is.foldl (fun l i => l.setIfInBounds i true) listed).size = listed.size ∧
    ∀ j d, (is.foldl (fun l i => l.setIfInBounds i true) listed).getD j d = if j ∈ is ∧ j < listed.size then true else listed.getD j d := by
  induction is generalizing listed with
  | nil => exact ⟨rfl, fun j d => by simp⟩
  | cons i is ih =>
    obtain ⟨h1, h2⟩ := ih (listed := listed.setIfInBounds i true)
    refine ⟨by simpa using h1, fun j d => ?_⟩
    rw [List.foldl_cons, h2]
    simp only [Array.size_setIfInBounds, List.mem_cons]
    by_cases hj : j = i
    · subst hj
      by_cases hlt : j < listed.size
      · simp [hlt]
      · simp [hlt]
    · rw [getD_set_ne d (Ne.symm hj)]
      simp [hj]

theorem put_same (a : Act) (d : Option Tmp) (v : Value) : (a.put d v).defers = a.defers ∧ (a.put d v).tmps.size = a.tmps.size := by cases d <;> simp [Act.put]
theorem preAct_same : ∀ (is : List Nat) (a : Act), (preAct ops is a).defers = a.defers ∧ (preAct ops is a).tmps.size = a.tmps.size
  | [], _ => ⟨rfl, rfl⟩
  | i :: is, a => by
    cases ho : ops[i]? with
    | none => simp only [preAct, ho]; exact preAct_same is a
    | some o =>
      cases hop : o.op with
      | move x =>
        simp only [preAct, ho, hop]
        obtain ⟨h1, h2⟩ := preAct_same is (a.put o.dst (a.eval x))
        exact ⟨h1.trans (put_same _ _ _).1, h2.trans (put_same _ _ _).2⟩
      | _ => simp only [preAct, ho, hop]; exact preAct_same is a

theorem wp_region_rel_of {id : Nat} {l : List Oper} {ds : List (Option (List (Nat × Tmp)))} {hs : List (Nat × Tmp)} {Rs : List Stab} (hm : P.follows .mixedOrders = true) (hQ : ∀ c a w, ¬ Q (.panic c) a w) {a0 : Act} {w : World}
    (hB : relB l.toArray ds hs a0.tmps.size = true)
    (hobs : ∀ i o d, l[i]? = some o → ds[i]? = some (some d) → ∀ w', Mod [] w w' → withDeps Rs w' d (preAct l.toArray (pres ds) a0) fun a' => relAt P l.toArray o a' w' (Rs.getD i Stab.top))
    (htail : ∀ w', Mod [] w w' → withDeps Rs w' hs (preAct l.toArray (pres ds) a0) fun a' => wpList P l.toArray Q (l.drop ds.length) a' w') : (Code.region id l.toArray true).wp P Q a0 w := by
  obtain ⟨n, hnd⟩ : ∃ n, n = ds.length := ⟨_, rfl⟩
  simp only [relB, ← hnd, Bool.and_eq_true, Bool.or_eq_true, decide_eq_true_eq] at hB
  obtain ⟨⟨⟨⟨⟨⟨⟨hsel, hn⟩, htl⟩, hpreB⟩, hhs⟩, hsz⟩, hops⟩, hseq⟩ := hB
  rw [← hnd] at htail
  have hsel' := Region.noSelect_spec hsel
  refine wp_region_any hm ?_
  obtain ⟨a, ha⟩ : ∃ a, a = preAct l.toArray (pres ds) a0 := ⟨_, rfl⟩
  have has := preAct_same (ops := l.toArray) (pres ds) a0
  rw [← ha] at hobs htail has
  -- a tail operation waits for all of the head
  have hwait : ∀ {listed : Array Bool}, HeadInv .any l.toArray n listed → (∀ i, isPre ds i = true → i < n → listed.getD i false = true) → ∀ i, i < n → listed.getD i true = false → ∀ t, n ≤ t → t ∉ Region.ready .any l.toArray listed := by
    intro listed inv hp i hi hun t ht hr
    have htlt : t < l.toArray.size := by obtain ⟨_, o, ho, _⟩ := mem_ready.1 hr; exact (Array.getElem?_eq_some_iff.1 ho).1
    rcases htl with htl | ⟨hs1, hc1⟩
    · omega
    · rcases Nat.lt_or_ge n l.toArray.size with hlt | hge
      · exact sinkP_waits hs1 hc1 hlt inv hp _ i rfl hi hun t ht hr
      · omega
  have main : ∀ (m : Nat) (listed : Array Bool) (b : Act) (w' : World), RInv l.toArray ds n Rs w a listed b w' →
      ((List.range n).filter fun i => !listed.getD i false).length = m → wpAny P .any l.toArray Q (m + (l.toArray.size - n)) listed b w' := by
    intro m
    induction m with
    | zero =>
      intro listed b w' inv hc
      have hall : ∀ i, i < n → listed.getD i false = true := by
        intro i hi
        have h0 := List.eq_nil_of_length_eq_zero hc
        rw [List.filter_eq_nil_iff] at h0
        simpa using h0 i (List.mem_range.2 hi)
      have hl : listed = (Array.range l.toArray.size).map fun i => decide (i < n) := by
        apply Array.ext_getElem?
        intro i
        rcases Nat.lt_or_ge i l.toArray.size with hi | hi
        · have hil : i < listed.size := by rw [inv.head.size]; exact hi
          rw [Array.getElem?_eq_getElem hil]
          simp only [Array.getElem?_map, Array.getElem?_range, hi, if_true, Option.map_some]
          congr 1
          rcases Nat.lt_or_ge i n with h1 | h1
          · have := hall i h1
            simpa [h1, hil] using this
          · have := inv.head.tail i h1 hi
            have h2 : ¬ i < n := by omega
            simpa [h2, hil] using this
        · rw [Array.getElem?_eq_none (by rw [inv.head.size]; exact hi), Array.getElem?_eq_none (by simpa using hi)]
      rw [← hl] at hseq
      have ht := htail w' inv.mod
      obtain ⟨b', hF, h1, h2, h3, h4⟩ := withDeps_elim (a := b) hs a ht (fun p hp => by
        rw [hhs, List.mem_filterMap] at hp
        obtain ⟨j, hj, he⟩ := hp
        cases hpr : isPre ds j with
        | true => simp [hpr] at he
        | false =>
          cases hd : dstOf l.toArray j with
          | none => simp [hpr, hd] at he
          | some d =>
            simp only [hpr, hd, Bool.false_eq_true, if_false, Option.map_some, Option.some.injEq] at he
            subst he
            exact inv.done j d (List.mem_range.1 hj) hpr (hall j (List.mem_range.1 hj)) hd) inv.size
      have hbb : b' = b := by
        obtain ⟨bt, bd⟩ := b
        obtain ⟨bt', bd'⟩ := b'
        have e1 : bd' = bd := h1.trans inv.defers.symm
        have e2 : bt' = bt := by
          apply Array.ext_getElem?
          intro t
          by_cases hx : ∃ p ∈ hs, p.2 = t
          · obtain ⟨p, hp, he⟩ := hx
            rw [← he]
            exact h3 p hp
          · refine (h4 t (fun p hp he => hx ⟨p, hp, he⟩)).trans (inv.rest t (fun j hj hpr _ hd => hx ⟨(j, t), ?_, rfl⟩)).symm
            rw [hhs, List.mem_filterMap]
            exact ⟨j, List.mem_range.2 hj, by rw [hd, hpr]; rfl⟩
        rw [e1, e2]
      subst hbb
      have := wpAny_of_seq (Q' := Q) (l.drop n) n listed b' w' (fun j => by simp) (by simpa using hseq) hF
      simpa using this
    | succ m ih =>
      intro listed b w' inv hc
      have hsome : ∃ i, i < n ∧ listed.getD i false = false ∧ ∀ j, j < i → listed.getD j false = true := by
        have hex : ∃ i, i < n ∧ listed.getD i false = false := by
          have hne : (List.range n).filter (fun i => !listed.getD i false) ≠ [] := by
            intro e
            rw [e] at hc
            cases hc
          obtain ⟨i, hi⟩ := List.exists_mem_of_ne_nil _ hne
          rw [List.mem_filter] at hi
          exact ⟨i, List.mem_range.1 hi.1, by simpa using hi.2⟩
        obtain ⟨i, hi, hl⟩ := hex
        induction i using Nat.strongRecOn with
        | _ i ihi =>
          by_cases hx : ∃ j, j < i ∧ listed.getD j false = false
          · obtain ⟨j, hj, hjl⟩ := hx
            exact ihi j hj (by omega) hjl
          · refine ⟨i, hi, hl, fun j hj => ?_⟩
            cases h : listed.getD j false with
            | true => rfl
            | false => exact absurd ⟨j, hj, h⟩ hx
      obtain ⟨k, hk, hkl, hkm⟩ := hsome
      have getT : ∀ i, i < n → listed.getD i false = false → listed.getD i true = false := fun i hi h => getD_in (by rw [inv.head.size]; omega) h
      have hkr : k ∈ Region.ready .any l.toArray listed := by
        have h1 := List.all_eq_true.1 hops k (List.mem_range.2 hk)
        cases hok : l.toArray[k]? with
        | none => rw [hok] at h1; cases h1
        | some o =>
          cases hdk : ds[k]? with
          | none => rw [hok, hdk] at h1; cases h1
          | some dk =>
            rw [hok, hdk] at h1
            simp only [Bool.and_eq_true] at h1
            refine mem_ready.2 ⟨getT k hk hkl, o, hok, fun e he hb => ?_⟩
            have h2 := Array.all_eq_true'.1 h1.1.1.1 e he
            simp only [Bool.or_eq_true, Bool.not_eq_true', decide_eq_true_eq] at h2
            rcases h2 with h2 | h2
            · rw [h2] at hb; cases hb
            · exact hkm _ h2
      rw [show m + 1 + (l.toArray.size - n) = (m + (l.toArray.size - n)) + 1 from by omega]
      refine ⟨fun h0 => (by rw [h0] at hkr; cases hkr), fun i hi => ?_⟩
      have hin : i < n := by
        rcases Nat.lt_or_ge i n with h | h
        · exact h
        · exact absurd hi (hwait inv.head inv.pre k hk (getT k hk hkl) i h)
      obtain ⟨hun, o, ho, haft⟩ := mem_ready.1 hi
      have hunf := getD_both hun
      have hnp : isPre ds i = false := by
        cases h : isPre ds i with
        | false => rfl
        | true => have := inv.pre i h hin; rw [hunf] at this; cases this
      obtain ⟨d, hd⟩ : ∃ d, ds[i]? = some (some d) := by
        have : ds[i]? = some (ds[i]'(by omega)) := List.getElem?_eq_getElem (by omega)
        cases hx : ds[i]'(by omega) with
        | none => rw [hx] at this; simp [isPre, this] at hnp
        | some d => exact ⟨d, by rw [this, hx]⟩
      have h1 := List.all_eq_true.1 hops i (List.mem_range.2 hin)
      rw [ho, hd] at h1
      simp only [Bool.and_eq_true, Option.getD_some] at h1
      obtain ⟨⟨⟨_, hdeps⟩, hlook⟩, huniq⟩ := h1
      have hol : l[i]? = some o := by simpa using ho
      have hob := hobs i o d hol hd w' inv.mod
      have hdep : ∀ p ∈ d, p.1 < n ∧ listed.getD p.1 false = true ∧ dstOf l.toArray p.1 = some p.2 ∧ isPre ds p.1 = false := fun p hp => by
        have h2 := List.all_eq_true.1 hdeps p hp
        simp only [Bool.and_eq_true, decide_eq_true_eq, Bool.not_eq_true'] at h2
        obtain ⟨⟨⟨h3, h4⟩, h5⟩, h6⟩ := h2
        obtain ⟨o', ho', e, he, hb, hon⟩ := Region.waitsFor_spec h5
        have : o' = o := Option.some.inj (ho'.symm.trans ho)
        subst this
        exact ⟨by omega, by rw [← hon]; exact haft e he hb, h4, h6⟩
      obtain ⟨b', hF, hb1, hb2, hb3, hb4⟩ := withDeps_elim (a := b) d a hob (fun p hp => inv.done p.1 p.2 (hdep p hp).1 (hdep p hp).2.2.2 (hdep p hp).2.1 (hdep p hp).2.2.1) inv.size
      have hsame : ∀ t ∈ o.looksAt l.toArray, b'.tmps[t]? = b.tmps[t]? := fun t ht => by
        by_cases hx : ∃ p ∈ d, p.2 = t
        · obtain ⟨p, hp, he⟩ := hx
          rw [← he]
          exact hb3 p hp
        · have h2 := List.all_eq_true.1 hlook t ht
          simp only [Bool.or_eq_true] at h2
          rcases h2 with h2 | h2
          · obtain ⟨p, hp, he⟩ := List.any_eq_true.1 h2
            exact absurd ⟨p, hp, by simpa using he⟩ hx
          · rw [hb4 t (fun p hp he => hx ⟨p, hp, he⟩)]
            refine (inv.rest t (fun j hj hpr _ => ?_)).symm
            have := List.all_eq_true.1 h2 j (List.mem_range.2 hj)
            simpa [hpr] using this
      have hFb : relAt P l.toArray o b w' (Rs.getD i Stab.top) := by
        unfold relAt at hF ⊢
        rw [wanted_same hsame, exec_same (hsel' i o · · ho) hsame] at hF
        exact hF
      have step : ∀ v w2, Mod [] w' w2 → (Rs.getD i Stab.top).R v w2 → wpAny P .any l.toArray Q (m + (l.toArray.size - n)) (listed.setIfInBounds i true) (b.put o.dst v) w2 := by
        intro v w2 hmod hr
        have hdst : dstOf l.toArray i = o.dst := by simp [dstOf, hol]
        have hil : i < listed.size := by rw [inv.head.size]; omega
        refine ih _ _ _ ⟨inv.head.set hi hin, fun j hj hjn => getD_set_true (inv.pre j hj hjn), inv.mod.trans hmod (by simp), ?_, ?_, fun j dd hj hjp hjl hjd => ?_, fun t ht => ?_⟩ ?_
        · exact (put_same _ _ _).1.trans inv.defers
        · exact (put_same _ _ _).2.trans inv.size
        · by_cases hji : j = i
          · subst hji
            rw [hdst] at hjd
            rw [hjd]
            have hlt : dd < b.tmps.size := by
              rw [inv.size, has.2]
              have h2 := List.all_eq_true.1 hsz (j, dd) (by rw [hhs, List.mem_filterMap]; exact ⟨j, List.mem_range.2 hj, by rw [hdst, hjd, hjp]; rfl⟩)
              simpa using h2
            exact ⟨v, by simp [Act.put, hlt], hr⟩
          · rw [getD_set_ne false (Ne.symm hji)] at hjl
            obtain ⟨u, hu1, hu2⟩ := inv.done j dd hj hjp hjl hjd
            refine ⟨u, ?_, (Rs.getD j Stab.top).st _ _ _ hu2 hmod⟩
            rw [← hu1]
            cases hod : o.dst with
            | none => rfl
            | some od =>
              have h2 := List.all_eq_true.1 huniq j (List.mem_range.2 hj)
              simp only [Bool.or_eq_true, decide_eq_true_eq] at h2
              have hne : od ≠ dd := by
                intro e
                rcases h2 with (h2 | h2) | h2
                · exact hji h2
                · rw [hdst, hod] at h2; cases h2
                · exact h2 (by rw [hjd, hdst, hod, e])
              simp [Act.put, Array.getElem?_setIfInBounds_ne hne]
        · have hne : ∀ od, o.dst = some od → od ≠ t := fun od hod e => ht i hin hnp (by simp [hil]) (by rw [hdst, hod, e])
          rw [← inv.rest t (fun j hj hjp hjl => ht j hj hjp (getD_set_true hjl))]
          cases hod : o.dst with
          | none => rfl
          | some od => simp [Act.put, Array.getElem?_setIfInBounds_ne (hne od hod)]
        · have := filter_less (p := fun j => !listed.getD j false) (q := fun j => !(listed.setIfInBounds i true).getD j false) List.nodup_range (List.mem_range.2 hin) (by simp [hunf]) (by simp [hil]) (fun j hj => by rw [getD_set_ne false (Ne.symm hj)])
          omega
      unfold wpOp
      rw [ho]
      show if Region.wanted o (yielded l.toArray b.tmps) = true then _ else _
      unfold relAt at hFb
      split
      · rename_i hw
        rw [if_pos hw] at hFb
        exact .inl (wp_of_relUpon hFb step)
      · rename_i hw
        rw [if_neg hw] at hFb
        exact step undef w' (Mod.refl _ _) hFb
  -- the bare copies first
  have hpm : ∀ j, j ∈ pres ds ↔ j < n ∧ isPre ds j = true := fun j => by simp [pres, hnd]
  obtain ⟨L, hL⟩ : ∃ L, L = (pres ds).foldl (fun l i => l.setIfInBounds i true) (Array.replicate l.toArray.size false) := ⟨_, rfl⟩
  obtain ⟨hL1, hL2⟩ := foldl_set (is := pres ds) (listed := Array.replicate l.toArray.size false)
  rw [← hL] at hL1 hL2
  have hLf : ∀ j, L.getD j false = true ↔ j ∈ pres ds := fun j => by
    rw [hL2, getD_replicate_false]
    constructor
    · intro h
      split at h
      · rename_i h'; exact h'.1
      · cases h
    · intro h
      have := (hpm j).1 h
      rw [if_pos ⟨h, by simp; simp at hn; omega⟩]
  have inv0 : RInv l.toArray ds n Rs w a L a { w with drawn := w.drawn + 1 } := by
    refine ⟨⟨by rw [hL1]; simp, ?_, fun t ht htl => ?_⟩, fun i hi hin => (hLf i).2 ((hpm i).2 ⟨hin, hi⟩), (Mod.refl [] w).drew, rfl, rfl, fun j d _ hjp hl => ?_, fun _ _ => rfl⟩
    · -- what is listed has waited for nothing that is not: by the check
      have closed : ∀ (is : List Nat) (L0 : Array Bool), L0.size = l.toArray.size → preB l.toArray is L0 = true → (∀ j oj, l.toArray[j]? = some oj → L0.getD j false = true → ∀ e ∈ oj.after, Region.binds .any e = true → L0.getD e.on false = true) →
          ∀ j oj, l.toArray[j]? = some oj → (is.foldl (fun l i => l.setIfInBounds i true) L0).getD j false = true → ∀ e ∈ oj.after, Region.binds .any e = true → (is.foldl (fun l i => l.setIfInBounds i true) L0).getD e.on false = true := by
        intro is
        induction is with
        | nil => exact fun _ _ _ h => h
        | cons i is ih =>
          intro L0 hs0 hb hcl
          simp only [preB, Bool.and_eq_true] at hb
          obtain ⟨⟨⟨_, hr⟩, _⟩, hb'⟩ := hb
          obtain ⟨_, oi, hoi, hall⟩ := mem_ready.1 (by simpa using hr : i ∈ Region.ready .any l.toArray L0)
          refine ih (L0.setIfInBounds i true) (by simpa using hs0) hb' (fun j oj hj hl e he hbn => ?_)
          by_cases hij : i = j
          · subst hij
            have : oj = oi := Option.some.inj (hj.symm.trans hoi)
            subst this
            exact getD_set_true (hall e he hbn)
          · rw [getD_set_ne false hij] at hl
            exact getD_set_true (hcl j oj hj hl e he hbn)
      rw [hL]
      exact closed _ _ (by simp) hpreB (fun j oj _ hl => (by rw [getD_replicate_false] at hl; cases hl))
    · rw [hL2, if_neg (fun h => by have := (hpm t).1 h.1; omega)]
      exact getD_in (by simpa using htl) (getD_replicate_false _ _)
    · have := (hpm j).1 ((hLf j).1 hl)
      rw [hjp] at this
      exact absurd this.2 (by simp)
  have hcount : ((List.range n).filter fun i => !L.getD i false).length + (pres ds).length = n := by
    have e1 : (List.range n).filter (fun i => !L.getD i false) = (List.range n).filter (fun i => !isPre ds i) := List.filter_congr fun j hj => by
      have hjn := List.mem_range.1 hj
      congr 1
      rw [Bool.eq_iff_iff, hLf, hpm]
      simp [hjn]
    have e2 : pres ds = (List.range n).filter (isPre ds) := by rw [pres, hnd]
    rw [e1, e2]
    have : ∀ (k : List Nat), (k.filter fun i => !isPre ds i).length + (k.filter (isPre ds)).length = k.length := by
      intro k
      induction k with
      | nil => rfl
      | cons x k ih => cases h : isPre ds x <;> simp [h] <;> omega
    rw [this, List.length_range]
  have hmain := main _ _ _ _ inv0 rfl
  rw [ha, hL] at hmain
  have := pre_first hQ hsel (pres ds) _ a0 { w with drawn := w.drawn + 1 } _ hpreB hmain
  rw [← hL] at this
  have hfu : ((List.range n).filter fun i => !L.getD i false).length + (l.toArray.size - n) + (pres ds).length = l.toArray.size := by omega
  rw [hfu] at this
  exact this

theorem wp_region_rel {id : Nat} {l : List Oper} (ds : List (Option (List (Nat × Tmp)))) (hs : List (Nat × Tmp)) (hm : P.follows .mixedOrders = true) {a : Act} {w : World}
    (hB : relB l.toArray ds hs a.tmps.size = true)
    (h : relWalk P l.toArray w (preAct l.toArray (pres ds) a) l ds [] fun Rs => ∀ w', Mod [] w w' → withDeps Rs w' hs (preAct l.toArray (pres ds) a) fun a' => wpList P l.toArray (NoPanic Q) (l.drop ds.length) a' w') : (Code.region id l.toArray true).wp P Q a w := by
  obtain ⟨Rs, hF, _, hobs⟩ := relWalk_elim _ _ _ h
  have hB' := hB
  simp only [relB, Bool.and_eq_true, Bool.or_eq_true, decide_eq_true_eq] at hB'
  obtain ⟨⟨⟨⟨⟨⟨⟨_, hn⟩, _⟩, _⟩, _⟩, _⟩, hops⟩, _⟩ := hB'
  refine wp_region_noPanic (wp_region_rel_of hm (fun _ _ _ h => h) hB (fun i o d ho hd w' hw' => ?_) hF)
  have hi : i < ds.length := by
    rcases Nat.lt_or_ge i ds.length with h1 | h1
    · exact h1
    · rw [List.getElem?_eq_none h1] at hd; cases hd
  obtain ⟨r, hr, hall⟩ := hobs i o d ho hd (fun q hq => by
    have h1 := List.all_eq_true.1 hops i (List.mem_range.2 hi)
    have ho' : l.toArray[i]? = some o := by simpa using ho
    rw [ho', hd] at h1
    simp only [Bool.and_eq_true] at h1
    have h2 := List.all_eq_true.1 h1.1.1.2 q (by simpa using hq)
    simp only [Bool.and_eq_true, decide_eq_true_eq] at h2
    simpa using h2.1.1.1)
  have he : Rs.getD i Stab.top = r := by
    rw [List.getD_eq_getElem?_getD]
    simp only [List.length_nil, Nat.zero_add] at hr
    rw [hr]
    rfl
  rw [he]
  exact hall w' hw'

/-- An operation whose value is one and the same. -/
theorem relWalk_det {w : World} {a : Act} {o : Oper} {l : List Oper} {d : List (Nat × Tmp)} {ds : List (Option (List (Nat × Tmp)))} {Rs : List Stab} {F : List Stab → Prop} {e : Value}
    (h1 : ∀ w', Mod [] w w' → withDeps Rs w' d a fun a' => relAt P ops o a' w' (Stab.det e)) (h2 : relWalk P ops w a l ds (Rs ++ [Stab.det e]) F) : relWalk P ops w a (o :: l) (some d :: ds) Rs F := ⟨_, h1, h2⟩
/-- An operation whose value is known up to a relation. -/
theorem relWalk_by {w : World} {a : Act} {o : Oper} {l : List Oper} {d : List (Nat × Tmp)} {ds : List (Option (List (Nat × Tmp)))} {Rs : List Stab} {F : List Stab → Prop} (r : Stab)
    (h1 : ∀ w', Mod [] w w' → withDeps Rs w' d a fun a' => relAt P ops o a' w' r) (h2 : relWalk P ops w a l ds (Rs ++ [r]) F) : relWalk P ops w a (o :: l) (some d :: ds) Rs F := ⟨r, h1, h2⟩
theorem relWalk_pre {w : World} {a : Act} {o : Oper} {l : List Oper} {ds : List (Option (List (Nat × Tmp)))} {Rs : List Stab} {F : List Stab → Prop} (h2 : relWalk P ops w a l ds (Rs ++ [Stab.top]) F) : relWalk P ops w a (o :: l) (none :: ds) Rs F := h2
theorem relWalk_end {w : World} {a : Act} {l : List Oper} {Rs : List Stab} {F : List Stab → Prop} (h : F Rs) : relWalk P ops w a l [] Rs F := by cases l <;> exact h

theorem own_mod {S : List Nat} {w w' : World} {base e sz n : Nat} {v : Value} {xs : List Value} (h : w.ownsRow base e sz v n xs) (hm : Mod S w w') (h2 : ∀ g, v.ownBlock = some g → g ∉ S) : w'.ownsRow base e sz v n xs := by
  refine ⟨h.1, ?_⟩
  rcases h.2 with h0 | ⟨g, cap, cur, hv, hb, hg, r⟩
  · exact .inl h0
  · refine .inr ⟨g, cap, cur, hv, hb, ?_, r⟩
    rw [hm.block g (heap_lt hg) (h2 g (by rw [hv]; rfl))]
    exact hg
/-- A slice of the call's own that holds these cells. -/
def Stab.own (base e sz n : Nat) (xs : List Value) : Stab := ⟨fun v w => (∃ A c, v = .slice A n c) ∧ w.ownsRow base e sz v n xs, fun _ _ _ h hm => ⟨h.1, own_mod h.2 hm (by simp)⟩⟩
/-- An empty slice of the call's own, without room. -/
def Stab.empty (base e sz : Nat) : Stab := ⟨fun v w => ∃ g, v = .slice (some ⟨g, 0, none⟩) 0 0 ∧ w.ownsRow base e sz v 0 [], fun _ _ _ ⟨g, h1, h2⟩ hm => ⟨g, h1, own_mod h2 hm (by simp)⟩⟩
/-- A new block that holds these cells. -/
def Stab.blk (base t : Nat) (cs : List Value) : Stab := ⟨fun v w => ∃ g, v = .pointer (some ⟨g, 0, none⟩) ∧ base ≤ g ∧ Blk w g t cs, fun _ _ _ ⟨g, h1, h2, h3⟩ hm => ⟨g, h1, h2, h3.mod hm (by simp)⟩⟩

theorem relAt_append_clone {w : World} {o : Oper} {a : Act} (hgd : o.guard = none) (s x : Operand) (t : TypeId)
    (ho : o.op = .call { callee := .builtin .append, args := #[s, x], argTypes := #[t, t] })
    (base e : TypeId) (i : TypeInfo) (z : Value) (size bytes : Nat) (ht : P.underlying t = some (.slice e)) (hi : P.info? e = some i) (hz : i.zero = some z)
    (hsize : i.size = size) (hby : i.bytes = bytes) (hzs : z.cells.size = size) (hsz : 0 < size)
    (g : Nat) (hv : a.eval s = .slice (some ⟨g, 0, none⟩) 0 0) (hown : w.ownsRow base e size (.slice (some ⟨g, 0, none⟩) 0 0) 0 [])
    (y : Value) (m base' e' : Nat) (ys : List Value) (hy : a.eval x = y) (hs : w.ownsRow base' e' size y m ys) (h1 : ∀ u ∈ ys, u.oneCell' = true)
    (h63 : m ≤ maxLen) (hbytes : m * bytes ≤ 140737488355328) (hbase : base ≤ w.heap.size) : relAt P ops o a w (Stab.own base e size m ys) := by
  have hw : Region.wanted o (yielded ops a.tmps) = true := by simp [Region.wanted, hgd]
  unfold relAt
  rw [if_pos hw]
  obtain ⟨A, c, w', hr, h2, h3⟩ := run_append_clone (P := P) w t o.type base e i z size bytes ht hi hz hsize hby hzs hsz g hown y m base' e' ys hs h1 h63 hbytes hbase
  unfold execOp
  simp only [ho, resolve, invoke, builtin, Sem.run_bind, Sem.run_pure, Result.andThen_ok, List.map_toArray, List.map_cons, List.map_nil, hv, hy, hr]
  exact ⟨(Mod.refl [] w).grown h3 (by simp), ⟨A, c, rfl⟩, h2⟩
end
end Go.Proofs.Ytjediiajmnlonaa
