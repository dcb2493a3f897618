/- The document's Places: what its rounds do to the rows. No condition. -/
import Derived.Test.YtpaiejeipghehaaG2
import Derived.Test.YtpaiejeipghehaaChecked
section
/- Maps from places to words, for the executor. No condition. -/
namespace Go.Proofs.Ytpaiejeipghehaa
open Go.RowKit

abbrev tMap : TypeId := 207
/-- A kind of cells; a column of a row of elements. -/
inductive CK where
  | int (kd : IntKind)
  | bool
  | str
  | raw
inductive Col where
  | int (kd : IntKind) (W : Nat → Int)
  | bool (W : Nat → Bool)
  | str (W : Nat → ByteArray)
  | raw (W : Nat → Value)
def Col.at : Col → Nat → Value
  | .int kd W, i => .int kd (W i)
  | .bool W, i => .bool (W i)
  | .str W, i => .string (W i)
  | .raw W, i => W i
def colsF : List Col → Nat → List Value
  | [], _ => []
  | c :: r, i => c.at i :: colsF r i
inductive Rep where
  | pmap (l : List (Pl × Int)) (g : Pl → Int) (n : Nat)
  | vec (cs : List Col) (len : Nat) (t : TypeId)
  | tab (cs : List Col) (len : Nat)
  | ucells (l : List (Pl × Int)) (g : Pl → Int) (n : Nat)
  | queue (xs : List Ent) (n : Nat)
  | imap (t : TypeId) (l : List (Int × Option Int)) (g : Int → Option Int) (n : Nat)
  | junk
/-- What a row of stores comes to, the last one first, over what was there. -/
def getL : List (Pl × Int) → (Pl → Int) → Pl → Int
  | [], g, q => g q
  | (p, v) :: r, g, q => if q = p then v else getL r g q
def zeroG : Pl → Int := fun _ => 0
/-- The same of a map from whole numbers. -/
def getI : List (Int × Option Int) → (Int → Option Int) → Int → Option Int
  | [], g, q => g q
  | (p, v) :: r, g, q => if q = p then v else getI r g q
def noneG : Int → Option Int := fun _ => none
/-- The key's type and kind of a map from whole numbers to ints. -/
noncomputable def imKind (t : TypeId) : Option (TypeId × IntKind) := match Try.prog.underlying t with
  | some (.map k e) => match Try.prog.underlying k, Nat.beq e 3 with
    | some (.int q), true => some (k, q)
    | _, _ => none
  | _ => none
theorem imKind_ok {t k : TypeId} {q : IntKind} (h : imKind t = some (k, q)) : Try.prog.underlying t = some (.map k 3) ∧ Try.prog.underlying k = some (.int q) := by
  unfold imKind at h
  split at h
  · next k' e hu =>
    split at h
    · next q' hk he =>
      have he := Nat.eq_of_beq_eq_true he
      subst he
      cases h
      exact ⟨hu, hk⟩
    · cases h
  · cases h
abbrev tRC : TypeId := 40
abbrev tOne : TypeId := 211
def oneCols (A0 A1 A2 W : Nat → Int) : List Col := [.int .i64 A0, .int .i64 A1, .int .i64 A2, .int .u64 W]
/-- Rows of places and words, each place once, are the words f. -/
structure URel (A0 A1 A2 W : Nat → Int) (len : Nat) (f : Pl → Int) : Prop where
  wf : ∀ k, k < len → PlWf (A0 k, A1 k, A2 k)
  val : ∀ k, k < len → f (A0 k, A1 k, A2 k) = W k
  off : ∀ p, (∀ k, k < len → (A0 k, A1 k, A2 k) ≠ p) → f p = 0
  one : ∀ j k, j < len → k < len → (A0 j, A1 j, A2 j) = (A0 k, A1 k, A2 k) → j = k
/-- The document's Cells: words in a row, of at most n places. -/
def UAt (f : Pl → Int) (n : Nat) (e : Spot) (own : List Nat) (w : World) : Prop :=
  ∃ (A0 A1 A2 W : Nat → Int) (len : Nat) (sp : Spot) (own1 : List Nat), own = e.b :: own1 ∧ e.b ∉ own1 ∧
    (∃ cs : Array Value, w.heap[e.b]? = some (.cells cs tRC (0, 0)) ∧ cs[e.off]? = some (.slice sp.ad len sp.cap) ∧ 1 ≤ e.cap ∧ e.off + e.cap ≤ cs.size) ∧
    VecAt (colsF (oneCols A0 A1 A2 W)) len tOne 4 sp own1 w ∧ URel A0 A1 A2 W len f ∧ len ≤ n
theorem UAt.modP {T : Nat → Prop} {w w' : World} {f : Pl → Int} {n : Nat} {e : Spot} {own : List Nat} (h : UAt f n e own w) (hm : ModP T w w') (hT : ∀ x ∈ own, ¬ T x) : UAt f n e own w' := by
  obtain ⟨A0, A1, A2, W, len, sp, own1, h1, h2, ⟨cs, h3, h4⟩, h5, h6⟩ := h
  refine ⟨A0, A1, A2, W, len, sp, own1, h1, h2, ⟨cs, ?_, h4⟩, h5.modP hm fun x hx => hT x (by rw [h1]; simp [hx]), h6⟩
  rw [hm.block e.b (heap_lt h3) (hT _ (by rw [h1]; simp))]
  exact h3
/-- The program's queue: its entries; of so many pushes at most. -/
def QueAt (xs : List Ent) (n : Nat) (e : Spot) (own : List Nat) (w : World) : Prop := ∃ rb L f t, e.off = 0 ∧ own = [e.b, rb] ∧ e.b ≠ rb ∧ QAt w e.b rb L f t xs ∧ t ≤ n
theorem QueAt.modP {T : Nat → Prop} {w w' : World} {xs : List Ent} {n : Nat} {e : Spot} {own : List Nat} (h : QueAt xs n e own w) (hm : ModP T w w') (hT : ∀ x ∈ own, ¬ T x) : QueAt xs n e own w' := by
  obtain ⟨rb, L, f, t, h1, rfl, hne, ⟨hb, ⟨R, r1, r2, r3⟩, hp⟩, h3⟩ := h
  refine ⟨rb, L, f, t, h1, rfl, hne, ⟨?_, ⟨R, r1, ?_, r3⟩, ‹_›, ‹_›, ‹_›, ‹_›, ‹_›, ‹_›⟩, h3⟩
  · exact (hm.block e.b (heap_lt hb) (hT _ (by simp))).trans hb
  · exact (hm.block rb (heap_lt r2) (hT _ (by simp))).trans r2
def Rep.At (B : Nat) : Rep → Spot → List Nat → World → Prop
  | .pmap l g n, e, own, w => own = [e.b] ∧ MapAt w e.b (getL l g) n
  | .vec cs len t, e, own, w => VecAt (colsF cs) len t cs.length e own w
  | .tab cs len, e, own, w => TabAt B (colsF cs) len cs.length e own w
  | .ucells l g n, e, own, w => UAt (getL l g) n e own w
  | .queue xs n, e, own, w => QueAt xs n e own w
  | .imap t l g n, e, own, w => own = [e.b] ∧ ∃ k q, imKind t = some (k, q) ∧ IMapAt k q w e.b (getI l g) n
  | .junk, _, own, _ => own = []

theorem MapAt.lt {w : World} {b n : Nat} {f : Pl → Int} (h : MapAt w b f n) : b < w.heap.size := by
  obtain ⟨D, ⟨es, cl, h1, _⟩, _⟩ := h
  exact heap_lt h1
theorem MapAt.modP {T : Nat → Prop} {w w' : World} {b n : Nat} {f : Pl → Int} (h : MapAt w b f n) (hm : ModP T w w') (hb : ¬ T b) : MapAt w' b f n := by
  obtain ⟨D, ⟨es, cl, h1, h2⟩, h3⟩ := h
  exact ⟨D, ⟨es, cl, by rw [hm.block b (heap_lt h1) hb]; exact h1, h2⟩, h3⟩
def repAt : RepAt Rep where
  At := Rep.At
  stable {B r e own T w w'} h hm hT hB := by
    cases r with
    | pmap l g n => exact ⟨h.1, h.2.modP hm (hT e.b (by rw [h.1]; simp))⟩
    | vec cs len t => exact VecAt.modP h hm hT
    | tab cs len => exact TabAt.modP h hm hB
    | ucells l g n => exact UAt.modP h hm hT
    | queue xs n => exact QueAt.modP h hm hT
    | imap t l g n =>
      obtain ⟨h1, k, q, h2, h3⟩ := h
      exact ⟨h1, k, q, h2, h3.modP hm (hT e.b (by rw [h1]; simp))⟩
    | junk => exact h

/-- A map's numbers reckoned out. -/
def fPl {β : Type} (p : Pl) (k : Pl → β) : β := fInt p.1 fun a => fInt p.2.1 fun b => fInt p.2.2 fun c => k (a, b, c)
def fPls {β : Type} : List (Pl × Int) → (List (Pl × Int) → β) → β
  | [], k => k []
  | (p, v) :: l, k => fPl p fun p => fInt v fun v => fPls l fun l => k ((p, v) :: l)
def fRep {β : Type} (r : Rep) (k : Rep → β) : β := match r with
  | .pmap f g n => fPls f fun f => fNat n fun n => k (.pmap f g n)
  | r => k r
theorem fRep_eq {β : Type} (r : Rep) (k : Rep → β) : fRep r k = k r := by
  have hp : ∀ (l : List (Pl × Int)) (k : List (Pl × Int) → β), fPls l k = k l := fun l => by
    induction l with
    | nil => exact fun _ => rfl
    | cons p l ih =>
      intro k
      obtain ⟨p, v⟩ := p
      simp [fPls, fPl, fInt_eq, ih]
  cases r with
  | pmap f g n => simp [fRep, hp, fNat_eq]
  | _ => rfl
def plOf : SV → Option Pl
  | .agg [.v (.int .i64 a), .v (.int .i64 b), .v (.int .i64 c)] => some (a, b, c)
  | .v (.agg ⟨[.int .i64 a, .int .i64 b, .int .i64 c]⟩) => some (a, b, c)
  | _ => none
def plWfB (p : Pl) : Bool := (Lit.int .i64 p.1).wf && (Lit.int .i64 p.2.1).wf && (Lit.int .i64 p.2.2).wf
theorem plWfB_iff {p : Pl} : plWfB p = true ↔ PlWf p := by
  simp [plWfB, PlWf, and_assoc]
theorem plOf_den {ρ : Names} {s : SV} {p : Pl} {x : Value} (h : plOf s = some p) (hx : den ρ s = some x) : x = kagg p := by
  unfold plOf at h
  split at h
  · injection h with h
    subst h
    simp only [den, denL, Option.map_some, Option.some.injEq] at hx
    exact hx.symm
  · injection h with h
    subst h
    simp only [den, Option.some.injEq] at hx
    exact hx.symm
  · cases h

def mapGet (m k : Option SV) : M Rep SV := (M.opt 300 m).bind fun
  | .mp n => (getC n).bind fun
    | .rep (.pmap f g _) => (M.opt 301 (k.bind plOf)).bind fun p => (need 302 (plWfB p)).bind fun _ => .ret (.v (.int .u64 (getL f g p)))
    | _ => .fail 303
  | _ => .fail 304
def wordOf : SV → Option Int
  | .v (.int .u64 x) => some x
  | _ => none
def mapPut (m k v : Option SV) : M Rep SV := (M.opt 310 m).bind fun
  | .mp n => (getC n).bind fun
    | .rep (.pmap f g c) => (M.opt 311 (k.bind plOf)).bind fun p => (M.opt 312 (v.bind wordOf)).bind fun x => (need 313 (plWfB p && (Lit.int .u64 x).wf && x != 0 && decide (c < maxLen))).bind fun _ =>
      (setC n (.rep (.pmap ((p, x) :: f) g (c + 1)))).bind fun _ => .ret undefX
    | _ => .fail 314
  | _ => .fail 315
def mapDel (m k : Option SV) : M Rep SV := (M.opt 320 m).bind fun
  | .mp n => (getC n).bind fun
    | .rep (.pmap f g c) => (M.opt 321 (k.bind plOf)).bind fun p => (need 322 (plWfB p)).bind fun _ =>
      (setC n (.rep (.pmap ((p, 0) :: f) g c))).bind fun _ => .ret (.tup [])
    | _ => .fail 323
  | _ => .fail 324
def extM (ev : Operand → Option SV) (o : Oper) : Option (M Rep SV) := match o.op with
  | .makeMap t none => match Nat.beq t tMap with
    | true => some ((newC (.rep (.pmap [] zeroG 0))).bind fun n => .ret (.mp n))
    | false => none
  | .lookup t m k false => match Nat.beq t tMap with
    | true => some (mapGet (ev m) (ev k))
    | false => none
  | .mapUpdate t m k v => match Nat.beq t tMap with
    | true => some (mapPut (ev m) (ev k) (ev v))
    | false => none
  | .call ⟨.builtin .delete, ⟨[m, k]⟩, ⟨[t, kt]⟩⟩ => match Nat.beq t tMap && Nat.beq kt 113 with
    | true => some (mapDel (ev m) (ev k))
    | false => none
  | _ => none

section
variable {st st' : St Rep} {o : Oper} {ev : Operand → Option SV} {s : SV}
theorem CAt_rep {ρ : Names} {B : Nat} {e : Spot} {own : List Nat} {r : Rep} {w : World} : CAt repAt Try.prog ρ B e own (.rep r) w ↔ r.At B e own w := Iff.rfl
set_option maxRecDepth 100000 in
theorem extM_ok : ∀ ev o m, extM ev o = some m → ∀ st s st', m st = .ok s st' → OpS repAt Try.prog o ev st st' s := by
  intro ev o m hm st s st' h
  obtain ⟨dst, op, ty, pos, aft, gu⟩ := o
  unfold extM at hm
  split at hm
  · -- makeMap
    next t he =>
    simp only at he
    subst he
    split at hm <;> cases hm
    next ht =>
    have ht := Nat.eq_of_beq_eq_true ht
    subst ht
    obtain ⟨n, st1, h1, h2⟩ := bind_ok.1 h
    obtain ⟨rfl, rfl⟩ := newC_ok.1 h1
    obtain ⟨rfl, rfl⟩ := ret_ok.1 h2
    refine ⟨Fn.new _ _, fun B F ρ own w a si hev K Q hk => ?_⟩
    have ht := Tr.new (w' := w.alloc (.map #[] 0)) si ⟨w.heap.size, 0, 0, 0, 0, none⟩ [w.heap.size] (alloc_mod w _) (show Rep.At B (.pmap [] zeroG 0) ⟨w.heap.size, 0, 0, 0, 0, none⟩ [w.heap.size] _ from ⟨rfl, MapAt.new w⟩) (fun b hb => by
      rw [List.mem_singleton] at hb
      subst hb
      simp)
    refine wp_val (x := .map (some w.heap.size)) ?_ (hk _ _ _ _ ht (by simp [den, Names.put_same]))
    simp only [execOp, Option.map_none, Sem.run_bind, run_makeMap]
    rfl
  · -- lookup
    next t m k he =>
    simp only at he
    subst he
    split at hm <;> cases hm
    next ht =>
    have ht := Nat.eq_of_beq_eq_true ht
    subst ht
    obtain ⟨sm, _, h1, h2⟩ := bind_ok.1 h
    obtain ⟨hsm, rfl⟩ := opt_ok.1 h1
    split at h2
    · next n =>
      obtain ⟨c, st1, h3, h4⟩ := bind_ok.1 h2
      obtain ⟨hc, rfl⟩ := getC_ok.1 h3
      split at h4
      · next f g cnt =>
        obtain ⟨p, _, h5, h6⟩ := bind_ok.1 h4
        obtain ⟨hp, rfl⟩ := opt_ok.1 h5
        simp only [Option.bind_eq_some_iff] at hp
        obtain ⟨sk, hsk, hp⟩ := hp
        obtain ⟨_, st2, h7, h8⟩ := bind_ok.1 h6
        obtain ⟨q2, hq⟩ := need_ok h7
        obtain ⟨rfl, rfl⟩ := ret_ok.1 h8
        have q := Quiet.get.trans q2
        refine ⟨q.fn, fun B F ρ own w a si hev K Q hk => ?_⟩
        obtain ⟨e, he, hat⟩ := si.li.at_ n _ (si.log n (q2.fr n (mem_ins.2 (.inl rfl)))) hc
        have e1 := hev _ _ hsm
        simp only [den, he, Option.map_some, Option.some.injEq] at e1
        have e2 := plOf_den hp (hev _ _ hsk)
        refine wp_val (vrun ?_) (hk _ ρ own w (si.quiet q) rfl)
        rw [← e1, e2]
        exact (CAt_rep.1 hat).2.lookup (plWfB_iff.1 (hq si.ask)) Try.underlying207
      · exact (fail_ok.1 h4).elim
    · exact (fail_ok.1 h2).elim
  · -- update
    next t m k v he =>
    simp only at he
    subst he
    split at hm <;> cases hm
    next ht =>
    have ht := Nat.eq_of_beq_eq_true ht
    subst ht
    obtain ⟨sm, _, h1, h2⟩ := bind_ok.1 h
    obtain ⟨hsm, rfl⟩ := opt_ok.1 h1
    split at h2
    · next n =>
      obtain ⟨c, st1, h3, h4⟩ := bind_ok.1 h2
      obtain ⟨hc, rfl⟩ := getC_ok.1 h3
      split at h4
      · next f g cnt =>
        obtain ⟨p, _, h5, h6⟩ := bind_ok.1 h4
        obtain ⟨hp, rfl⟩ := opt_ok.1 h5
        simp only [Option.bind_eq_some_iff] at hp
        obtain ⟨sk, hsk, hp⟩ := hp
        obtain ⟨x, _, h7, h8⟩ := bind_ok.1 h6
        obtain ⟨hx, rfl⟩ := opt_ok.1 h7
        simp only [Option.bind_eq_some_iff] at hx
        obtain ⟨sv, hsv, hx⟩ := hx
        obtain ⟨_, st2, h9, h10⟩ := bind_ok.1 h8
        obtain ⟨q2, hq⟩ := need_ok h9
        obtain ⟨_, st3, h11, h12⟩ := bind_ok.1 h10
        obtain ⟨_, rfl⟩ := setC_ok.1 h11
        obtain ⟨rfl, rfl⟩ := ret_ok.1 h12
        have q := Quiet.get.trans q2
        have hc2 : hget n st2.hp = some (.rep (.pmap f g cnt)) := by rw [q.hp]; exact hc
        refine ⟨q.fn.trans (Fn.set st2 n (.rep (.pmap ((p, x) :: f) g (cnt + 1))) _ hc2), fun B F ρ own w a si hev K Q hk => ?_⟩
        have s1 := si.of_quiet q
        have hn := hq si.ask
        simp only [Bool.and_eq_true, bne_iff_ne, ne_eq, decide_eq_true_eq] at hn
        obtain ⟨⟨⟨n1, n2⟩, n3⟩, n4⟩ := hn
        obtain ⟨e, he, hat⟩ := s1.li.at_ n _ (s1.log n (mem_ins.2 (.inl rfl))) hc2
        have e1 := hev _ _ hsm
        simp only [den, he, Option.map_some, Option.some.injEq] at e1
        have e2 := plOf_den hp (hev _ _ hsk)
        have e3 : a.eval v = .int .u64 x := by
          have := hev _ _ hsv
          unfold wordOf at hx
          split at hx <;> cases hx
          simp only [den, Option.some.injEq] at this
          exact this.symm
        obtain ⟨ho, hmap⟩ := CAt_rep.1 hat
        obtain ⟨w', hr, hm', hmod⟩ := hmap.store n4 (plWfB_iff.1 n1) n2 n3 Try.underlying207
        have ht := Tr.set s1 hc2 he (own n) ((ModP.of_mod hmod).mono (fun b _ hb => by rw [ho]; exact hb)) (show Rep.At B (.pmap ((p, x) :: f) g (cnt + 1)) e (own n) w' from ⟨ho, hm'⟩) (fun b hb => .inl hb)
        refine wp_unit ?_ (hk undef _ _ _ (Tr.of_quiet q ht) rfl)
        simp only [execOp, ← e1, e2, e3, Sem.run_bind, hr, Result.andThen_ok]
        rfl
      · exact (fail_ok.1 h4).elim
    · exact (fail_ok.1 h2).elim
  · -- delete
    next m k t kt he =>
    simp only at he
    subst he
    split at hm <;> cases hm
    next ht =>
    simp only [Bool.and_eq_true] at ht
    have ht1 := Nat.eq_of_beq_eq_true ht.1
    have ht2 := Nat.eq_of_beq_eq_true ht.2
    subst ht1
    subst ht2
    obtain ⟨sm, _, h1, h2⟩ := bind_ok.1 h
    obtain ⟨hsm, rfl⟩ := opt_ok.1 h1
    split at h2
    · next n =>
      obtain ⟨c, st1, h3, h4⟩ := bind_ok.1 h2
      obtain ⟨hc, rfl⟩ := getC_ok.1 h3
      split at h4
      · next f g cnt =>
        obtain ⟨p, _, h5, h6⟩ := bind_ok.1 h4
        obtain ⟨hp, rfl⟩ := opt_ok.1 h5
        simp only [Option.bind_eq_some_iff] at hp
        obtain ⟨sk, hsk, hp⟩ := hp
        obtain ⟨_, st2, h9, h10⟩ := bind_ok.1 h6
        obtain ⟨q2, hq⟩ := need_ok h9
        obtain ⟨_, st3, h11, h12⟩ := bind_ok.1 h10
        obtain ⟨_, rfl⟩ := setC_ok.1 h11
        obtain ⟨rfl, rfl⟩ := ret_ok.1 h12
        have q := Quiet.get.trans q2
        have hc2 : hget n st2.hp = some (.rep (.pmap f g cnt)) := by rw [q.hp]; exact hc
        refine ⟨q.fn.trans (Fn.set st2 n (.rep (.pmap ((p, 0) :: f) g cnt)) _ hc2), fun B F ρ own w a si hev K Q hk => ?_⟩
        have s1 := si.of_quiet q
        obtain ⟨e, he, hat⟩ := s1.li.at_ n _ (s1.log n (mem_ins.2 (.inl rfl))) hc2
        have e1 := hev _ _ hsm
        simp only [den, he, Option.map_some, Option.some.injEq] at e1
        have e2 := plOf_den hp (hev _ _ hsk)
        obtain ⟨ho, hmap⟩ := CAt_rep.1 hat
        obtain ⟨w', hr, hm', hmod⟩ := hmap.drop (plWfB_iff.1 (hq si.ask)) Try.underlying207 ty
        have ht := Tr.set s1 hc2 he (own n) ((ModP.of_mod hmod).mono (fun b _ hb => by rw [ho]; exact hb)) (show Rep.At B (.pmap ((p, 0) :: f) g cnt) e (own n) w' from ⟨ho, hm'⟩) (fun b hb => .inl hb)
        refine wp_val (x := .tuple #[]) ?_ (hk _ _ _ _ (Tr.of_quiet q ht) rfl)
        have hargs : (#[m, k].map a.eval : Array Value) = #[.map (some e.b), kagg p] := by
          have : (#[m, k] : Array Operand).map a.eval = #[a.eval m, a.eval k] := by simp
          rw [this, ← e1, e2]
        simp only [execOp, resolve, Sem.run_bind, Sem.run_pure, Result.andThen_ok, invoke, builtin]
        rw [show (⟨[m, k]⟩ : Array Operand).map a.eval = #[.map (some e.b), kagg p] from hargs, hr]
        rfl
      · exact (fail_ok.1 h4).elim
    · exact (fail_ok.1 h2).elim
  · cases hm
end
end Go.Proofs.Ytpaiejeipghehaa
end
section
/- What the executor does at rows of open number: an element's place, load, store, append; and that the machine does it. No condition. -/
namespace Go.Proofs.Ytpaiejeipghehaa
open Go.RowKit

def plainL : List SV → Option (List Value)
  | [] => some []
  | .v x :: r => (plainL r).map fun l => x :: l
  | _ :: _ => none
theorem plainL_den {ρ : Names} : ∀ {l : List SV} {vs us : List Value}, plainL l = some vs → denL ρ l = some us → us = vs
  | [], vs, us, h, hd => by
    simp only [plainL, denL, Option.some.injEq] at h hd
    rw [← h, ← hd]
  | .v x :: r, vs, us, h, hd => by
    simp only [plainL, Option.map_eq_some_iff] at h
    obtain ⟨l, h1, rfl⟩ := h
    obtain ⟨a, b, h2, h3, rfl⟩ := denL_cons.1 hd
    simp only [den, Option.some.injEq] at h2
    rw [plainL_den h1 h3, h2]
  | .ptr .. :: _, _, _, h, _ | .sl .. :: _, _, _, h, _ | .slE .. :: _, _, _, h, _ | .tptr .. :: _, _, _, h, _ | .tsl .. :: _, _, _, h, _ | .mp .. :: _, _, _, h, _ | .ifc .. :: _, _, _, h, _ | .agg .. :: _, _, _, h, _ | .tup .. :: _, _, _, h, _ | .clo .. :: _, _, _, h, _ => by cases h

def updI {α : Type} (W : Nat → α) (i : Nat) (v : α) : Nat → α := fun m => if m = i then v else W m
def joinI {α : Type} (W : Nat → α) (len : Nat) (V : Nat → α) : Nat → α := fun i => if i < len then W i else V (i - len)
def eqKd (a b : IntKind) : Bool := match decide (a = b) with
  | true => true
  | false => false
/-- Cells of element i are others. -/
def updC : Col → Nat → Value → Option Col
  | .int kd W, i, .int kd' z => match eqKd kd kd' with
    | true => some (.int kd (updI W i z))
    | false => none
  | .bool W, i, .bool b => some (.bool (updI W i b))
  | .str W, i, .string b => some (.str (updI W i b))
  | .raw W, i, x => some (.raw (updI W i x))
  | _, _, _ => none
def updCs : List Col → Nat → Nat → List Value → Option (List Col)
  | cs, _, 0, [] => some cs
  | c :: cs, i, 0, v :: vs => match updC c i v, updCs cs i 0 vs with
    | some c, some cs => some (c :: cs)
    | _, _ => none
  | c :: cs, i, j + 1, vs => match updCs cs i j vs with
    | some cs => some (c :: cs)
    | none => none
  | [], _, _, _ => none
def joinC : Col → Nat → Col → Option Col
  | .int kd W, n, .int kd' V => match eqKd kd kd' with
    | true => some (.int kd (joinI W n V))
    | false => none
  | .bool W, n, .bool V => some (.bool (joinI W n V))
  | .str W, n, .str V => some (.str (joinI W n V))
  | .raw W, n, V => some (.raw (joinI W n V.at))
  | _, _, _ => none
def joinCs : List Col → Nat → List Col → Option (List Col)
  | [], _, [] => some []
  | c :: cs, n, d :: ds => match joinC c n d, joinCs cs n ds with
    | some c, some cs => some (c :: cs)
    | _, _ => none
  | _, _, _ => none
def constC : Value → Col
  | .int kd z => .int kd fun _ => z
  | .bool b => .bool fun _ => b
  | .string b => .str fun _ => b
  | x => .raw fun _ => x

section
variable (P : Program)
def vecIdx (n len : Nat) (elem : TypeId) (i : Int) : M Rep SV := (getC n).bind fun
  | .rep (.vec cs len' _) => (want 330 (match szT P elem with | some k' => Nat.beq k' cs.length | none => false)).bind fun _ => (need 331 (decide (0 ≤ i ∧ i < (len : Int) ∧ len ≤ len'))).bind fun _ => .ret (.tptr n i.toNat 0)
  | .rep (.tab cs len') => (want 332 (match szT P elem with | some k' => Nat.beq k' cs.length | none => false)).bind fun _ => (need 333 (decide (0 ≤ i ∧ i < (len : Int) ∧ len ≤ len'))).bind fun _ => .ret (.tptr n i.toNat 0)
  | _ => .fail 334
def arrIdx (t : TypeId) (n : Nat) (kd : IntKind) (i : Int) (alen : Nat) (elem : TypeId) : M Rep SV := (getC n).bind fun
  | .rep (.vec cs len' _) => (want 335 (match szT P elem with | some k' => Nat.beq k' cs.length | none => false)).bind fun _ => (need 336 (decide (0 ≤ i ∧ i < (alen : Int) ∧ alen ≤ len'))).bind fun _ => .ret (.tptr n i.toNat 0)
  | _ => idxX P t (.ptr n 0) (.v (.int kd i))
def vecLoad (t : TypeId) (n i j : Nat) : M Rep SV := (getC n).bind fun
  | .rep (.vec cs _ _) => .opt 337 (partX P t ((colsF cs i).map .v) j)
  | .rep (.tab cs _) => .opt 338 (partX P t ((colsF cs i).map .v) j)
  | _ => .fail 339
def vecStore (t : TypeId) (n i j : Nat) (v : SV) : M Rep SV := (M.opt 340 (plainL v.cells)).bind fun vs => (M.opt 341 (szT P t)).bind fun kk => (getC n).bind fun
  | .rep (.vec cs len t') => (want 342 (Nat.beq vs.length kk && vs.all Value.oneCell')).bind fun _ => (M.opt 344 (updCs cs i j vs)).bind fun cs' =>
    (setC n (.rep (.vec cs' len t'))).bind fun _ => .ret undefX
  | _ => .fail 343
/-- The elements to be appended. -/
def vecSrc (k : Nat) : SV → M Rep (Nat × List Col)
  | .tsl n m => (getC n).bind fun
    | .rep (.vec cs len' _) => (want 344 (Nat.beq k cs.length)).bind fun _ => (need 345 (decide (m ≤ len'))).bind fun _ => .ret (m, cs)
    | .rep (.tab cs len') => (want 346 (Nat.beq k cs.length)).bind fun _ => (need 347 (decide (m ≤ len'))).bind fun _ => .ret (m, cs)
    | _ => .fail 348
  | x => (srcX k x).bind fun r => (M.opt 349 (plainL r.2)).bind fun vs => (want 361 (Nat.beq r.1 1 && vs.all Value.oneCell')).bind fun _ => .ret (1, vs.map constC)
def vecAppend (t tx : TypeId) (s x : SV) : M Rep SV := match P.underlying t with
  | some (.slice elem) => (M.opt 350 (P.info? elem)).bind fun i => (want 351 (!Nat.beq i.size 0 && !Nat.beq i.bytes 0 && zeroFits i && isSliceT P (some tx))).bind fun _ => (vecSrc i.size x).bind fun r => match s with
    | .tsl n len => (getC n).bind fun
      | .rep (.vec cs len' t') => (want 352 (Nat.beq t' elem && Nat.beq cs.length i.size)).bind fun _ => (need 353 (decide (len ≤ len' ∧ (len + r.1) * i.bytes ≤ 140737488351232))).bind fun _ => (M.opt 362 (joinCs cs len r.2)).bind fun cs' => (delC n).bind fun _ =>
        (newC (.rep (.vec cs' (len + r.1) elem))).bind fun n' => .ret (.tsl n' (len + r.1))
      | _ => .fail 354
    | .sl n 0 0 0 => (getC n).bind fun
      | .row [] t' => (want 355 (Nat.beq t' elem && Nat.beq r.2.length i.size)).bind fun _ => (need 356 (decide (r.1 * i.bytes ≤ 140737488351232))).bind fun _ => (delC n).bind fun _ =>
        (newC (.rep (.vec r.2 r.1 elem))).bind fun n' => .ret (.tsl n' r.1)
      | _ => .fail 357
    | .v (.slice none 0 0) => (want 363 (Nat.beq r.2.length i.size)).bind fun _ => (need 358 (decide (r.1 * i.bytes ≤ 140737488351232))).bind fun _ => (newC (.rep (.vec r.2 r.1 elem))).bind fun n' => .ret (.tsl n' r.1)
    | _ => .fail 359
  | _ => .fail 360
/-- A number among the first k, found out one by one. -/
def pickN : Nat → Nat → Int → M Rep Nat
  | 0, _, _ => .fail 370
  | k + 1, c, z => (askB (decide (z = (c : Int)))).bind fun
    | true => .ret c
    | false => pickN k (c + 1) z
def concIdx (n off len k : Nat) (z : Int) : M Rep SV := (pickN len 0 z).bind fun c => .ret (.ptr n (off + c * k))
def isPtrT (t : TypeId) : Bool := match P.underlying t with
  | some (.pointer _) => true
  | _ => false
def isTsl : SV → Bool
  | .tsl _ _ => true
  | _ => false
def extV (ev : Operand → Option SV) (o : Oper) : Option (M Rep SV) := match o.op with
  | .indexAddr t x i => match ev x, ev i with
    | some (.tsl n len), some (.v (.int _ z)) => match P.underlying t with
      | some (.slice elem) => some (vecIdx P n len elem z)
      | _ => none
    | some (.ptr n 0), some (.v (.int kd z)) => match P.underlying t with
      | some (.array alen elem) => some (arrIdx P t n kd z alen elem)
      | _ => none
    | some (.sl n off _ len), some (.v (.int _ z)) => match P.underlying t with
      | some (.slice elem) => match isPtrT P elem, szT P elem with
        | true, some k => some (concIdx n off len k z)
        | _, _ => none
      | _ => none
    | _, _ => none
  | .load t x => match ev x with
    | some (.tptr n i j) => some (vecLoad P t n i j)
    | _ => none
  | .store t x y => match ev x with
    | some (.tptr n i j) => match ev y with
      | some v => some (vecStore P t n i j v)
      | none => none
    | _ => none
  | .call ⟨.builtin .append, ⟨[s, x]⟩, ⟨[t, tx]⟩⟩ => match ev s, ev x with
    | some a, some b => match isTsl a || isTsl b with
      | true => some (vecAppend P t tx a b)
      | false => none
    | _, _ => none
  | _ => none
end

section
variable {P : Program} {st st1 st' : St Rep} {B : Nat} {F : Nat → Prop} {ρ ρ' : Names} {own own' : Nat → List Nat} {w w' : World}
theorem szB {elem : TypeId} {k : Nat} (h : (match szT P elem with | some k' => Nat.beq k' k | none => false) = true) : szT P elem = some k := by
  split at h
  · next k' hk => rw [hk, Nat.eq_of_beq_eq_true h]
  · cases h
theorem vkey {n len len' k : Nat} {t elem : TypeId} {z : Int} {e : Spot} (he : ρ n = some e) (hl : e.len = len') (hk : e.sz = k) (had : 0 < len' → e.ad = some ⟨e.b, e.off, none⟩) (hsz : szT P elem = some k) (hz : 0 ≤ z ∧ z < (len : Int) ∧ len ≤ len') (hu : P.underlying t = some (.slice elem)) (a : Value) (kd : IntKind) (ha : den ρ (.tsl n len) = some a) :
    ∃ y, (Instr.indexAt t a (.int kd z)).run P w = .ok y w ∧ den ρ (.tptr n z.toNat 0) = some y := by
  obtain ⟨g1, g2, g3⟩ := hz
  simp only [den, he, Option.map_some, Option.some.injEq] at ha
  subst ha
  refine ⟨.pointer (some ⟨e.b, e.off + z.toNat * e.sz, none⟩), ?_, ?_⟩
  · simp only [Instr.indexAt, asIntOf, Sem.run_bind, Sem.run_pure, Result.andThen_ok, run_underlying hu w, g1, g2, and_self, if_true, szT_run hsz w, had (by omega), add_at, hk]
  · have : z.toNat < e.len := by omega
    simp [den, he, this]
theorem vecIdx_s {n len : Nat} {t elem : TypeId} {z : Int} {s : SV} (hu : P.underlying t = some (.slice elem)) (h : vecIdx P n len elem z st = .ok s st') : Quiet st st' ∧ ∀ B F ρ own w a kd, Sit repAt P B F st st' ρ own w → den ρ (.tsl n len) = some a →
    ∃ y, (Instr.indexAt t a (.int kd z)).run P w = .ok y w ∧ den ρ s = some y := by
  unfold vecIdx at h
  obtain ⟨c, st1, h1, h2⟩ := bind_ok.1 h
  obtain ⟨hc, rfl⟩ := getC_ok.1 h1
  split at h2
  · next cs len' t' =>
    obtain ⟨_, _, h3, h4⟩ := bind_ok.1 h2
    obtain ⟨hsz, rfl⟩ := want_ok.1 h3
    obtain ⟨_, st2, h5, h6⟩ := bind_ok.1 h4
    obtain ⟨q, hq⟩ := need_ok h5
    obtain ⟨rfl, rfl⟩ := ret_ok.1 h6
    refine ⟨Quiet.get.trans q, fun B F ρ own w a kd s ha => ?_⟩
    obtain ⟨e, he, hat⟩ := s.li.at_ n _ (s.log n (q.fr n (mem_ins.2 (.inl rfl)))) hc
    have hv : VecAt (colsF cs) len' t' cs.length e (own n) w := hat
    refine vkey he hv.1 hv.2.1 (fun hl => ?_) (szB hsz) (of_decide_eq_true (hq s.ask)) hu a kd ha
    obtain ⟨_, _, h3, _, h5⟩ := hv
    cases hx : e.ad with
    | none => rw [hx] at h5; have := h5.2; omega
    | some g => rw [hx] at h5; rw [h5.1]
  · next cs len' =>
    obtain ⟨_, _, h3, h4⟩ := bind_ok.1 h2
    obtain ⟨hsz, rfl⟩ := want_ok.1 h3
    obtain ⟨_, st2, h5, h6⟩ := bind_ok.1 h4
    obtain ⟨q, hq⟩ := need_ok h5
    obtain ⟨rfl, rfl⟩ := ret_ok.1 h6
    refine ⟨Quiet.get.trans q, fun B F ρ own w a kd s ha => ?_⟩
    obtain ⟨e, he, hat⟩ := s.li.at_ n _ (s.log n (q.fr n (mem_ins.2 (.inl rfl)))) hc
    have hv : TabAt B (colsF cs) len' cs.length e (own n) w := hat
    exact vkey he hv.2.1 hv.2.2.1 (fun hl => (hv.2.2.2.1 hl).1) (szB hsz) (of_decide_eq_true (hq s.ask)) hu a kd ha
  · exact (fail_ok.1 h2).elim
theorem arrIdx_s {n alen : Nat} {t elem : TypeId} {kd : IntKind} {z : Int} {s : SV} (hu : P.underlying t = some (.array alen elem)) (h : arrIdx P t n kd z alen elem st = .ok s st') : Quiet st st' ∧ ∀ B F ρ own w a, Sit repAt P B F st st' ρ own w → den ρ (.ptr n 0) = some a →
    ∃ y, (Instr.indexAt t a (.int kd z)).run P w = .ok y w ∧ den ρ s = some y := by
  unfold arrIdx at h
  obtain ⟨c, st1, h1, h2⟩ := bind_ok.1 h
  obtain ⟨hc, rfl⟩ := getC_ok.1 h1
  split at h2
  · next cs len' t' =>
    obtain ⟨_, _, h3, h4⟩ := bind_ok.1 h2
    obtain ⟨hsz, rfl⟩ := want_ok.1 h3
    obtain ⟨_, st2, h5, h6⟩ := bind_ok.1 h4
    obtain ⟨q, hq⟩ := need_ok h5
    obtain ⟨rfl, rfl⟩ := ret_ok.1 h6
    refine ⟨Quiet.get.trans q, fun B F ρ own w a s ha => ?_⟩
    obtain ⟨e, he, hat⟩ := s.li.at_ n _ (s.log n (q.fr n (mem_ins.2 (.inl rfl)))) hc
    have hv : VecAt (colsF cs) len' t' cs.length e (own n) w := hat
    obtain ⟨g1, g2, g3⟩ := of_decide_eq_true (hq s.ask)
    simp only [den, he, Option.map_some, Option.some.injEq, Nat.add_zero] at ha
    subst ha
    refine ⟨.pointer (some ⟨e.b, e.off + z.toNat * e.sz, none⟩), ?_, ?_⟩
    · simp only [Instr.indexAt, asIntOf, Sem.run_bind, Sem.run_pure, Result.andThen_ok, run_underlying hu w, Instr.sureAddr, g1, g2, and_self, if_true, szT_run (szB hsz) w, add_at, hv.2.1]
    · have : z.toNat < e.len := by rw [hv.1]; omega
      simp [den, he, this]
  · obtain ⟨q, hs⟩ := idx_s (A := repAt) h2
    exact ⟨Quiet.get.trans q, fun B F ρ own w a s ha => hs B F ρ own w a (.int kd z) (s.of_quiet Quiet.get) ha rfl⟩
theorem pickN_s : ∀ {k c : Nat} {z : Int} {r : Nat} {st st' : St Rep}, pickN k c z st = .ok r st' → Quiet st st' ∧ ((∀ p ∈ st'.ask, p.1 = p.2) → z = (r : Int) ∧ c ≤ r ∧ r < c + k)
  | 0, _, _, _, _, _, h => (fail_ok.1 h).elim
  | k + 1, c, z, r, st, st', h => by
    obtain ⟨b, st1, h1, h2⟩ := bind_ok.1 h
    obtain ⟨q, hq⟩ := ask_ok h1
    cases b with
    | true =>
      obtain ⟨rfl, rfl⟩ := ret_ok.1 h2
      exact ⟨q, fun ha => ⟨of_decide_eq_true (hq ha), Nat.le_refl _, by omega⟩⟩
    | false =>
      obtain ⟨q2, h3⟩ := pickN_s h2
      exact ⟨q.trans q2, fun ha => by obtain ⟨g1, g2, g3⟩ := h3 ha; exact ⟨g1, by omega, by omega⟩⟩
theorem concIdx_s {n off idx len k : Nat} {t elem : TypeId} {kd : IntKind} {z : Int} {s : SV} (hu : P.underlying t = some (.slice elem)) (hk : szT P elem = some k) (h : concIdx n off len k z st = .ok s st') : Quiet st st' ∧ ∀ B F ρ own w a, Sit repAt P B F st st' ρ own w → den ρ (.sl n off idx len) = some a →
    ∃ y, (Instr.indexAt t a (.int kd z)).run P w = .ok y w ∧ den ρ s = some y := by
  unfold concIdx at h
  obtain ⟨c, st1, h1, h2⟩ := bind_ok.1 h
  obtain ⟨q, hq⟩ := pickN_s h1
  obtain ⟨rfl, rfl⟩ := ret_ok.1 h2
  refine ⟨q, fun B F ρ own w a s ha => ?_⟩
  obtain ⟨rfl, _, g3⟩ := hq s.ask
  simp only [den, Option.map_eq_some_iff] at ha
  obtain ⟨e, he, rfl⟩ := ha
  refine ⟨.pointer (some ⟨e.b, e.off + off + c * k, none⟩), ?_, by simp [den, he, Nat.add_assoc]⟩
  have g4 : (0 : Int) ≤ (c : Int) ∧ (c : Int) < (len : Int) := by omega
  simp only [Instr.indexAt, asIntOf, Sem.run_bind, Sem.run_pure, Result.andThen_ok, run_underlying hu w, g4, and_self, if_true, szT_run hk w, add_at, Int.toNat_natCast]
theorem vecLoad_s {t : TypeId} {n i j : Nat} {s : SV} (h : vecLoad P t n i j st = .ok s st') : Quiet st st' ∧ ∀ B F ρ own w v, Sit repAt P B F st st' ρ own w → den ρ (.tptr n i j) = some v → ∃ y, den ρ s = some y ∧ (Instr.loadAt t v).run P w = .ok y w := by
  unfold vecLoad at h
  obtain ⟨c, st1, h1, h2⟩ := bind_ok.1 h
  obtain ⟨hc, rfl⟩ := getC_ok.1 h1
  split at h2
  · next cs len t' =>
    obtain ⟨hp, rfl⟩ := opt_ok.1 h2
    refine ⟨Quiet.get, fun B F ρ own w v s hx => ?_⟩
    obtain ⟨e, he, hat⟩ := s.li.at_ n _ (s.log n (mem_ins.2 (.inl rfl))) hc
    have hv : VecAt (colsF cs) len t' cs.length e (own n) w := hat
    simp only [den, he] at hx
    split at hx
    · next hlt =>
      simp only [Option.some.injEq] at hx
      subst hx
      refine load_part hp (denL_vs _) fun m u hu => ?_
      rw [Nat.add_assoc, hv.2.1]
      exact hv.cell (by rw [← hv.1]; exact hlt) hu
    · cases hx
  · next cs len =>
    obtain ⟨hp, rfl⟩ := opt_ok.1 h2
    refine ⟨Quiet.get, fun B F ρ own w v s hx => ?_⟩
    obtain ⟨e, he, hat⟩ := s.li.at_ n _ (s.log n (mem_ins.2 (.inl rfl))) hc
    have hv : TabAt B (colsF cs) len cs.length e (own n) w := hat
    simp only [den, he] at hx
    split at hx
    · next hlt =>
      simp only [Option.some.injEq] at hx
      subst hx
      refine load_part hp (denL_vs _) fun m u hu => ?_
      rw [Nat.add_assoc, hv.2.2.1]
      exact hv.cell (by rw [← hv.2.1]; exact hlt) hu
    · cases hx
  · exact (fail_ok.1 h2).elim
theorem eqKd_ok {a b : IntKind} (h : eqKd a b = true) : a = b := by
  unfold eqKd at h
  split at h
  · next hb => exact of_decide_eq_true hb
  · cases h
theorem updC_ok {c c' : Col} {i : Nat} {v : Value} (h : updC c i v = some c') (m : Nat) : c'.at m = if m = i then v else c.at m := by
  unfold updC at h
  split at h
  · split at h <;> cases h
    next hk =>
    obtain rfl := eqKd_ok hk
    simp only [Col.at, updI]
    split <;> rfl
  · injection h with h
    subst h
    simp only [Col.at, updI]
    split <;> rfl
  · injection h with h
    subst h
    simp only [Col.at, updI]
    split <;> rfl
  · injection h with h
    subst h
    simp only [Col.at, updI]
  · cases h
theorem colsF_length : ∀ {cs : List Col} {i : Nat}, (colsF cs i).length = cs.length
  | [], _ => rfl
  | _ :: r, i => by simp [colsF, colsF_length (cs := r)]
theorem updCs_ok : ∀ {cs cs' : List Col} {i j : Nat} {vs : List Value}, updCs cs i j vs = some cs' → j + vs.length ≤ cs.length ∧ cs'.length = cs.length ∧ ∀ m, colsF cs' m = if m = i then spliceV (colsF cs i) j vs else colsF cs m
  | cs, cs', i, 0, [], h => by
    have e : updCs cs i 0 [] = some cs := by cases cs <;> rfl
    rw [e] at h
    injection h with h
    subst h
    refine ⟨by simp, rfl, fun m => ?_⟩
    split
    · next e => subst e; simp [spliceV]
    · rfl
  | c :: cs, cs', i, 0, v :: vs, h => by
    simp only [updCs] at h
    split at h <;> cases h
    next c1 r h1 h2 =>
    obtain ⟨g1, g2, g3⟩ := updCs_ok h2
    refine ⟨by simp only [List.length_cons]; omega, by simp [g2], fun m => ?_⟩
    simp only [colsF, updC_ok h1 m, g3 m]
    split
    · simp [spliceV]
    · rfl
  | c :: cs, cs', i, j + 1, vs, h => by
    have e : updCs (c :: cs) i (j + 1) vs = (match updCs cs i j vs with | some cs => some (c :: cs) | none => none) := by cases vs <;> rfl
    rw [e] at h
    split at h <;> cases h
    next r h2 =>
    obtain ⟨g1, g2, g3⟩ := updCs_ok h2
    refine ⟨by simp only [List.length_cons]; omega, by simp [g2], fun m => ?_⟩
    simp only [colsF, g3 m]
    split
    · next e => subst e; simp [spliceV, Nat.add_right_comm]
    · rfl
  | [], cs', i, 0, v :: vs, h => by cases h
  | [], cs', i, j + 1, vs, h => by cases vs <;> cases h
theorem vecStore_s {t : TypeId} {n i j : Nat} {v s : SV} (h : vecStore P t n i j v st = .ok s st') : s = undefX ∧ Fn st st' ∧ ∀ B F ρ own w a b, Sit repAt P B F st st' ρ own w → den ρ (.tptr n i j) = some a → den ρ v = some b →
    ∃ ρ' own' w', (Instr.storeAt t a b).run P w = .ok () w' ∧ Tr repAt P B F st st' ρ own w ρ' own' w' := by
  unfold vecStore at h
  obtain ⟨vs, _, h1, h2⟩ := bind_ok.1 h
  obtain ⟨hvs, rfl⟩ := opt_ok.1 h1
  obtain ⟨kk, _, h3, h4⟩ := bind_ok.1 h2
  obtain ⟨hk, rfl⟩ := opt_ok.1 h3
  obtain ⟨c, st1, h5, h6⟩ := bind_ok.1 h4
  obtain ⟨hc, rfl⟩ := getC_ok.1 h5
  split at h6
  · next cs len t' =>
    obtain ⟨_, _, h7, h8⟩ := bind_ok.1 h6
    obtain ⟨hw, rfl⟩ := want_ok.1 h7
    obtain ⟨cs', _, h11, h8⟩ := bind_ok.1 h8
    obtain ⟨hcs, rfl⟩ := opt_ok.1 h11
    obtain ⟨_, st2, h9, h10⟩ := bind_ok.1 h8
    obtain ⟨_, rfl⟩ := setC_ok.1 h9
    obtain ⟨rfl, rfl⟩ := ret_ok.1 h10
    simp only [Bool.and_eq_true] at hw
    obtain ⟨hw1, hw3⟩ := hw
    have hw1 := Nat.eq_of_beq_eq_true hw1
    have hw3 := List.all_eq_true.1 hw3
    obtain ⟨hu1, hu2, hu3⟩ := updCs_ok hcs
    have q : Quiet st { st with fr := insN n st.fr } := Quiet.get
    refine ⟨rfl, q.fn.trans (Fn.set _ n _ _ hc), fun B F ρ own w a b s ha hb => ?_⟩
    have s1 := s.of_quiet q
    have hcv := den_cells hb
    have hpl := plainL_den hvs hcv
    obtain ⟨e, he, hat⟩ := s1.li.at_ n _ (s1.log n (mem_ins.2 (.inl rfl))) hc
    have hv : VecAt (colsF cs) len t' cs.length e (own n) w := hat
    simp only [den, he] at ha
    split at ha
    · next hlt =>
      simp only [Option.some.injEq] at ha
      subst ha
      obtain ⟨w', hr, hm, hat'⟩ := hv.write (P := P) (i := i) (j := j) (us := vs) (by rw [← hv.1]; exact hlt) hu1 hw3
      have hat2 : VecAt (colsF cs') len t' cs'.length e (own n) w' := by
        rw [hu2, show colsF cs' = fun m => if m = i then spliceV (colsF cs i) j vs else colsF cs m from funext hu3]
        exact hat'
      refine ⟨_, _, w', ?_, Tr.of_quiet q (Tr.set s1 hc he (own n) hm (show CAt repAt P ρ B e (own n) (.rep (.vec cs' len t')) w' from hat2) (fun b hb => .inl hb))⟩
      simp only [Instr.storeAt, Instr.sureAddr, storeVar, Sem.run_bind, Sem.run_pure, Result.andThen_ok, szT_run hk w, Sem.run_ite]
      rw [if_neg (by rw [← Array.length_toList, hpl]; omega), hpl, hv.2.1]
      exact hr
    · cases ha
  · exact (fail_ok.1 h6).elim
end
end Go.Proofs.Ytpaiejeipghehaa
end
section
/- What the executor says of append at rows of open number, the machine does. No condition. -/
namespace Go.Proofs.Ytpaiejeipghehaa
open Go.RowKit

theorem flatF_congr {f g : Nat → List Value} : ∀ {n : Nat}, (∀ i, i < n → f i = g i) → flatF f n = flatF g n
  | 0, _ => rfl
  | n + 1, h => by rw [flatF, flatF, flatF_congr (fun i hi => h i (by omega)), h n (by omega)]
theorem flatF_join {f g : Nat → List Value} {len : Nat} : ∀ m, flatF (joinF f len g) (len + m) = flatF f len ++ flatF g m
  | 0 => by
    rw [Nat.add_zero, flatF, List.append_nil]
    exact flatF_congr fun i hi => by simp [joinF, hi]
  | m + 1 => by
    rw [← Nat.add_assoc, flatF, flatF_join m, flatF, List.append_assoc]
    rw [joinF, if_neg (by omega), Nat.add_sub_cancel_left]
theorem flatF_rows {k : Nat} {l : List Value} : ∀ n, flatF (rowsF k l) n = l.take (n * k)
  | 0 => by simp [flatF]
  | n + 1 => by rw [flatF, flatF_rows n, rowsF, Nat.add_mul, Nat.one_mul, List.take_add]

theorem joinC_ok {c d r : Col} {n : Nat} (h : joinC c n d = some r) (i : Nat) : r.at i = if i < n then c.at i else d.at (i - n) := by
  unfold joinC at h
  split at h
  · split at h <;> cases h
    next hk =>
    obtain rfl := eqKd_ok hk
    simp only [Col.at, joinI]
    split <;> rfl
  · injection h with h
    subst h
    simp only [Col.at, joinI]
    split <;> rfl
  · injection h with h
    subst h
    simp only [Col.at, joinI]
    split <;> rfl
  · injection h with h
    subst h
    simp only [Col.at, joinI]
  · cases h
theorem joinCs_ok : ∀ {cs ds r : List Col} {n : Nat}, joinCs cs n ds = some r → r.length = cs.length ∧ ds.length = cs.length ∧ colsF r = joinF (colsF cs) n (colsF ds)
  | [], [], r, n, h => by
    injection h with h
    subst h
    exact ⟨rfl, rfl, by funext i; simp [joinF, colsF]⟩
  | c :: cs, d :: ds, r, n, h => by
    simp only [joinCs] at h
    split at h <;> cases h
    next c1 r1 h1 h2 =>
    obtain ⟨g1, g2, g3⟩ := joinCs_ok h2
    refine ⟨by simp [g1], by simp [g2], ?_⟩
    funext i
    simp only [colsF, g3, joinC_ok h1, joinF]
    split <;> rfl
  | [], _ :: _, _, _, h => by cases h
  | _ :: _, [], _, _, h => by cases h
theorem constC_at (v : Value) (i : Nat) : (constC v).at i = v := by
  unfold constC
  split <;> rfl
theorem constCs : ∀ (vs : List Value) (i : Nat), colsF (vs.map constC) i = vs
  | [], _ => rfl
  | v :: vs, i => by simp [colsF, constC_at, constCs vs]

section
variable {P : Program} {st st1 st' : St Rep} {B : Nat} {F : Nat → Prop} {ρ ρ' : Names} {own own' : Nat → List Nat} {w w' : World}
def SrcR (k : Nat) (g : Nat → List Value) (m : Nat) (a : Value) (w : World) : Prop := ∃ ad c, a = .slice ad m c ∧ (∀ i, i < m → RowOK k (g i)) ∧ (∀ a', ad = some a' → ∀ j u, (flatF g m)[j]? = some u → w.cell? (a'.add j) = some u) ∧ (ad = none → m = 0)
theorem vecSrc_s {k : Nat} {x : SV} {m : Nat} {g : List Col} (h : vecSrc k x st = .ok (m, g) st') : Quiet st st' ∧ ∀ B F ρ own w a, Sit repAt P B F st st' ρ own w → den ρ x = some a → SrcR k (colsF g) m a w := by
  unfold vecSrc at h
  split at h
  · next n m0 =>
    obtain ⟨c, st1, h1, h2⟩ := bind_ok.1 h
    obtain ⟨hc, rfl⟩ := getC_ok.1 h1
    split at h2
    · next cs len' t' =>
      obtain ⟨_, _, h3, h4⟩ := bind_ok.1 h2
      obtain ⟨hk, rfl⟩ := want_ok.1 h3
      obtain ⟨_, st2, h5, h6⟩ := bind_ok.1 h4
      obtain ⟨q, hq⟩ := need_ok h5
      obtain ⟨e, rfl⟩ := ret_ok.1 h6
      injection e with e1 e2
      subst e1
      subst e2
      have hk := Nat.eq_of_beq_eq_true hk
      subst hk
      refine ⟨Quiet.get.trans q, fun B F ρ own w a s ha => ?_⟩
      obtain ⟨e, he, hat⟩ := s.li.at_ n _ (s.log n (q.fr n (mem_ins.2 (.inl rfl)))) hc
      have hv : VecAt (colsF cs) len' t' cs.length e (own n) w := hat
      have hle := of_decide_eq_true (hq s.ask)
      simp only [den, he, Option.map_some, Option.some.injEq] at ha
      refine ⟨e.ad, e.cap, ha.symm, fun i hi => hv.2.2.2.1 i (by omega), fun a' ha' => hv.flat hle ha', fun hn => ?_⟩
      obtain ⟨_, _, g3, _, g5⟩ := hv
      rw [hn] at g5
      have := g5.2
      omega
    · next cs len' =>
      obtain ⟨_, _, h3, h4⟩ := bind_ok.1 h2
      obtain ⟨hk, rfl⟩ := want_ok.1 h3
      obtain ⟨_, st2, h5, h6⟩ := bind_ok.1 h4
      obtain ⟨q, hq⟩ := need_ok h5
      obtain ⟨e, rfl⟩ := ret_ok.1 h6
      injection e with e1 e2
      subst e1
      subst e2
      have hk := Nat.eq_of_beq_eq_true hk
      subst hk
      refine ⟨Quiet.get.trans q, fun B F ρ own w a s ha => ?_⟩
      obtain ⟨e, he, hat⟩ := s.li.at_ n _ (s.log n (q.fr n (mem_ins.2 (.inl rfl)))) hc
      have hv : TabAt B (colsF cs) len' cs.length e (own n) w := hat
      have hle := of_decide_eq_true (hq s.ask)
      simp only [den, he, Option.map_some, Option.some.injEq] at ha
      refine ⟨e.ad, e.cap, ha.symm, fun i hi => (hv.2.2.2.2 i (by omega)).1, fun a' ha' => hv.flat hle ha', fun hn => ?_⟩
      obtain ⟨_, _, _, g4, _⟩ := hv
      rcases Nat.eq_zero_or_pos m0 with h | h
      · exact h
      · have := (g4 (by omega)).1
        rw [hn] at this
        cases this
    · exact (fail_ok.1 h2).elim
  · next x _ =>
    obtain ⟨⟨m', cs⟩, st1, h1, h2⟩ := bind_ok.1 h
    obtain ⟨q1, hsrc⟩ := src_s (A := repAt) (P := P) h1
    obtain ⟨vs, _, h3, h4⟩ := bind_ok.1 h2
    obtain ⟨hvs, rfl⟩ := opt_ok.1 h3
    obtain ⟨_, _, h5, h6⟩ := bind_ok.1 h4
    obtain ⟨hone, rfl⟩ := want_ok.1 h5
    obtain ⟨e, rfl⟩ := ret_ok.1 h6
    simp only [Bool.and_eq_true] at hone
    have hm1 := Nat.eq_of_beq_eq_true hone.1
    have hone1 := List.all_eq_true.1 hone.2
    injection e with e1 e2
    subst e1
    change m' = 1 at hm1
    subst hm1
    refine ⟨q1, fun B F ρ own w a s ha => ?_⟩
    obtain ⟨ad, c, news, rfl, g1, g2, g3, g4⟩ := hsrc B F ρ own w a s.li s.log ha
    have hpl := plainL_den hvs g1
    subst hpl
    subst e2
    refine ⟨ad, c, rfl, fun i hi => by rw [constCs]; exact ⟨by rw [g2, Nat.one_mul], hone1⟩, fun a' ha' j u hu => ?_, g4⟩
    simp only [flatF, constCs, List.nil_append] at hu
    exact g3 a' ha' j u hu

theorem SrcR.src {k m : Nat} {g : Nat → List Value} {a : Value} {tx e : TypeId} (h : SrcR k g m a w) (hk : P.underlying tx = some (.slice e)) : Src P k tx a m (flatF g m) w := by
  obtain ⟨ad, c, rfl, h1, h2, h3⟩ := h
  exact src_of hk (flatF_length fun i hi => (h1 i hi).1) h2 h3 (fun v hv => by
    obtain ⟨i, hi, hv⟩ := flatF_mem hv
    exact (h1 i hi).2 v hv)

/-- The elements fill a new block. -/
theorem VecAt.fresh {f : Nat → List Value} {n k cap b : Nat} {t : TypeId} {cs : Array Value} (hb : w.heap[b]? = some (.cells cs t (0, 0))) (hr : ∀ i, i < n → RowOK k (f i)) (hc : ∀ j, j < n * k → cs[j]? = (flatF f n)[j]?) (hn : n ≤ cap) (hcap : cap * k ≤ cs.size) :
    VecAt f n t k ⟨b, cap, 0, k, n, some ⟨b, 0, none⟩⟩ [b] w := by
  refine ⟨rfl, rfl, hn, hr, rfl, rfl, cs, hb, by show 0 + cap * k ≤ _; omega, fun i hi j hj => ?_⟩
  show cs[0 + (i * k + j)]? = _
  have : (i + 1) * k ≤ n * k := Nat.mul_le_mul_right _ hi
  rw [Nat.add_mul, Nat.one_mul] at this
  rw [Nat.zero_add, hc _ (by omega), flatF_get (fun i hi => (hr i hi).1) hi hj]

theorem VecAt.trim {f g : Nat → List Value} {len len0 k : Nat} {t : TypeId} {e : Spot} {own : List Nat} (h : VecAt f len0 t k e own w) (hle : len ≤ len0) : VecAt (joinF f len g) len t k ⟨e.b, e.cap, e.off, k, len, e.ad⟩ own w := by
  obtain ⟨h1, h2, h3, h4, h5⟩ := h
  refine ⟨rfl, rfl, Nat.le_trans hle h3, fun i hi => by simp only [joinF, hi, if_true]; exact h4 i (by omega), ?_⟩
  cases ha : e.ad with
  | none => rw [ha] at h5; exact h5
  | some q =>
    rw [ha] at h5
    obtain ⟨g1, g2, cs, g3, g4, g5⟩ := h5
    refine ⟨g1, g2, cs, g3, g4, fun i hi j hj => ?_⟩
    simp only [joinF, hi, if_true]
    exact g5 i (by omega) j hj

/-- An append to a slice whose elements are known, in place or not. -/
theorem append_core {t tx ty elem : TypeId} {i : TypeInfo} (hu : P.underlying t = some (.slice elem)) (hi : P.info? elem = some i) (hb0 : i.bytes ≠ 0) {zv : Value} (hz : i.zero = some zv) (hzs : zv.cells.size = i.size) {et : TypeId} (hkx : P.underlying tx = some (.slice et))
    {f g : Nat → List Value} {len len0 m : Nat} {e : Spot} {own0 : List Nat} (hv : VecAt f len0 elem i.size e own0 w) (hle : len ≤ len0) (hby : (len + m) * i.bytes ≤ 140737488351232) {b : Value} (hsrc : SrcR i.size g m b w) :
    ∃ e' own1 w', (Builtin.append_ #[t, tx] ty #[.slice e.ad len e.cap, b]).run P w = .ok (.slice e'.ad (len + m) e'.cap) w' ∧ ModP (fun x => x ∈ own0) w w' ∧ VecAt (joinF f len g) (len + m) elem i.size e' own1 w' ∧ ∀ x ∈ own1, x ∈ own0 ∨ (w.heap.size ≤ x ∧ x < w'.heap.size) := by
  have hsr := hsrc.src hkx
  have hcap : len ≤ e.cap := Nat.le_trans hle hv.2.2.1
  have hfl : (flatF f len).length = len * i.size := flatF_length fun j hj => (hv.2.2.2.1 j (by omega)).1
  obtain ⟨ad, c, hbv, hg, hgc, hgn⟩ := hsrc
  rcases Nat.eq_zero_or_pos m with h0 | h0
  · subst h0
    exact ⟨⟨e.b, e.cap, e.off, i.size, len, e.ad⟩, own0, w, run_append_nothing w t tx ty elem i hu hi e.ad len e.cap hcap b hsr, ModP.refl _ _, hv.trim hle, fun x hx => .inl hx⟩
  · by_cases hroom : len + m ≤ e.cap
    · obtain ⟨w', had, hst, hm, hv'⟩ := hv.extend (P := P) hle hroom h0 hg (flatF_length fun j hj => (hg j hj).1) (fun j hj q hq => flatF_get (fun j hj => (hg j hj).1) hj hq) hsr.one
      refine ⟨_, own0, w', ?_, hm, hv', fun x hx => .inl hx⟩
      simp only
      rw [had]
      exact append_room (ty := ty) hu hi e.b e.off len e.cap b m _ hsr hroom hst
    · have hold : (Builtin.firstCells i.size len (.slice e.ad len e.cap)).run P w.drew = .ok (flatF f len).toArray w.drew := by
        cases ha : e.ad with
        | none =>
          obtain ⟨_, _, _, _, h5⟩ := hv
          rw [ha] at h5
          have : len = 0 := by have := h5.2; omega
          subst this
          exact run_firstCells_none w.drew i.size 0 0 _
        | some q => exact run_firstCells_some w.drew i.size len _ _ _ _ hfl (fun j u hu' => hv.flat hle ha j u hu')
      have hb1' : len + m ≤ (len + m) * i.bytes := Nat.le_mul_of_pos_right _ (by omega)
      have hr := run_append_grow_src w t tx ty elem i zv hu hi hz e.ad len e.cap (flatF f len) hold b m (flatF g m) hsr (by omega) (by omega) (growslice_fits (by omega) (by omega))
      have hge := grownCap_ge w (len + m) e.cap elem
      generalize grownCap w (len + m) e.cap elem = gc at hr hge
      refine ⟨⟨w.heap.size, gc, 0, i.size, len + m, some ⟨w.heap.size, 0, none⟩⟩, [w.heap.size], _, hr, ⟨rfl, rfl, rfl, by simp, fun k hk _ => RowKit.Below.heap_alloc w.drew _ k hk⟩, VecAt.fresh (heap_alloc_new w.drew _) (fun j hj => ?_) (fun j hj => ?_) hge ?_, fun x hx => .inr ?_⟩
      · unfold joinF
        by_cases hjl : j < len
        · rw [if_pos hjl]; exact hv.2.2.2.1 j (by omega)
        · rw [if_neg hjl]; exact hg _ (by omega)
      · rw [flatF_join, Array.getElem?_append_left (by
          simp only [List.size_toArray, List.length_append, hfl, flatF_length (fun j hj => (hg j hj).1)]
          rw [← Nat.add_mul]; exact hj), List.getElem?_toArray]
      · have e3 : (len + m) * i.size + (gc - (len + m)) * i.size = gc * i.size := by
          rw [← Nat.add_mul]
          congr 1
          omega
        rw [Array.size_append, size_zeroCells, hzs]
        simp only [List.size_toArray, List.length_append, hfl, flatF_length (fun j hj => (hg j hj).1)]
        rw [Nat.add_mul] at e3
        omega
      · rw [List.mem_singleton] at hx
        subst hx
        exact ⟨Nat.le_refl _, by simp⟩

theorem vecAppend_s {t tx ty : TypeId} {x y s : SV} (h : vecAppend P t tx x y st = .ok s st') : Fn st st' ∧ ∀ B F ρ own w a b, Sit repAt P B F st st' ρ own w → den ρ x = some a → den ρ y = some b →
    ∃ v ρ' own' w', (Builtin.append_ #[t, tx] ty #[a, b]).run P w = .ok v w' ∧ den ρ' s = some v ∧ Tr repAt P B F st st' ρ own w ρ' own' w' := by
  unfold vecAppend at h
  generalize hu : P.underlying t = du at h
  split at h
  case h_2 => exact (fail_ok.1 h).elim
  next elem =>
  obtain ⟨i, _, h1, h2⟩ := bind_ok.1 h
  obtain ⟨hi, rfl⟩ := opt_ok.1 h1
  obtain ⟨_, _, h3, h4⟩ := bind_ok.1 h2
  obtain ⟨hb, rfl⟩ := want_ok.1 h3
  obtain ⟨⟨m, g⟩, st1, h5, h6⟩ := bind_ok.1 h4
  obtain ⟨q1, hsrc⟩ := vecSrc_s (P := P) h5
  simp only [Bool.and_eq_true, Bool.not_eq_true'] at hb
  obtain ⟨⟨⟨hb1, hb2⟩, hb3⟩, hb4⟩ := hb
  have hb1 := Nat.ne_of_beq_eq_false hb1
  have hb2 := Nat.ne_of_beq_eq_false hb2
  obtain ⟨e', hkx⟩ := isSliceT_ok hb4 rfl
  obtain ⟨zv, hz, hzs⟩ : ∃ z, i.zero = some z ∧ z.cells.size = i.size := by
    unfold zeroFits at hb3
    split at hb3
    · next z hz => exact ⟨z, hz, Nat.eq_of_beq_eq_true hb3⟩
    · cases hb3
  clear h h1 h2 h3 h4 h5 hb4
  simp only at h6
  split at h6
  · -- a row of open number
    next n len =>
    obtain ⟨c, st2, h7, h8⟩ := bind_ok.1 h6
    obtain ⟨hc, rfl⟩ := getC_ok.1 h7
    split at h8
    · next cs len' t' =>
      obtain ⟨_, _, h9, h10⟩ := bind_ok.1 h8
      obtain ⟨hw, rfl⟩ := want_ok.1 h9
      simp only [Bool.and_eq_true] at hw
      obtain ⟨hw1, hw2⟩ := hw
      have hw1 := Nat.eq_of_beq_eq_true hw1
      have hw2 := Nat.eq_of_beq_eq_true hw2
      obtain ⟨_, st2, h11, h12⟩ := bind_ok.1 h10
      obtain ⟨q3, hq3⟩ := need_ok h11
      obtain ⟨cs', _, h13, h12⟩ := bind_ok.1 h12
      obtain ⟨hjoin, rfl⟩ := opt_ok.1 h13
      obtain ⟨hj1, _, hj3⟩ := joinCs_ok hjoin
      obtain ⟨_, st3, h15, h16⟩ := bind_ok.1 h12
      obtain ⟨_, rfl⟩ := delC_ok.1 h15
      obtain ⟨n', st4, h17, h18⟩ := bind_ok.1 h16
      obtain ⟨rfl, rfl⟩ := newC_ok.1 h17
      obtain ⟨rfl, rfl⟩ := ret_ok.1 h18
      clear h6 h7 h8 h9
      subst hw1
      have q2 : Quiet st1 { st1 with fr := insN n st1.fr } := Quiet.get
      have q := (q1.trans q2).trans q3
      have hc0 : hget n st.hp = some (.rep (.vec cs len' t')) := by rw [← q1.hp]; exact hc
      have hc2 : hget n st2.hp = some (.rep (.vec cs len' t')) := by rw [q.hp]; exact hc0
      refine ⟨q.fn.trans (Fn.move st2 n _ _ hc2), fun B F ρ own w a b s ha hb => ?_⟩
      have s1 := s.of_quiet q
      obtain ⟨hle, hby⟩ := of_decide_eq_true (hq3 s.ask)
      have hF : F n := s.log n (mem_ins.2 (.inl rfl))
      have ssrc : Sit repAt P B F st st1 ρ own w := ⟨fun k hk => s.log k (mem_ins.2 (.inr (q3.fr k (q2.fr k hk)))), s.wf, fun k hk => absurd hk (newN_self q1.nx), s.li, fun p hp => s.ask p (q3.ask p (q2.ask p hp)), s.base⟩
      have hsr := hsrc B F ρ own w b ssrc hb
      obtain ⟨e, he, hat⟩ := s.li.at_ n _ hF hc0
      have hv : VecAt (colsF cs) len' t' i.size e (own n) w := by rw [← hw2]; exact hat
      simp only [den, he, Option.map_some, Option.some.injEq] at ha
      subst ha
      obtain ⟨e1, own1, w', hr, hm, hv', ho⟩ := append_core (ty := ty) hu hi hb2 hz hzs hkx hv hle hby hsr
      have hv2 : VecAt (colsF cs') (len + m) t' cs'.length e1 own1 w' := by rw [hj3, hj1, hw2]; exact hv'
      have ht := Tr.move s1 hc2 e1 own1 hm (show CAt repAt P (ρ.put st2.nx e1) B e1 own1 (.rep (.vec cs' (len + m) t')) w' from hv2) ho
      refine ⟨_, _, _, _, hr, ?_, Tr.of_quiet q ht⟩
      simp only [den]
      rw [Names.put_same]
      rfl
    · exact (fail_ok.1 h8).elim
  · -- an empty row
    next n =>
    obtain ⟨c, st2, h7, h8⟩ := bind_ok.1 h6
    obtain ⟨hc, rfl⟩ := getC_ok.1 h7
    split at h8
    · next t' =>
      obtain ⟨_, _, h9, h10⟩ := bind_ok.1 h8
      obtain ⟨hw, rfl⟩ := want_ok.1 h9
      simp only [Bool.and_eq_true] at hw
      obtain ⟨hw1, hw2⟩ := hw
      have hw1 := Nat.eq_of_beq_eq_true hw1
      have hw2 := Nat.eq_of_beq_eq_true hw2
      obtain ⟨_, st2, h11, h12⟩ := bind_ok.1 h10
      obtain ⟨q3, hq3⟩ := need_ok h11
      obtain ⟨_, st3, h15, h16⟩ := bind_ok.1 h12
      obtain ⟨_, rfl⟩ := delC_ok.1 h15
      obtain ⟨n', st4, h17, h18⟩ := bind_ok.1 h16
      obtain ⟨rfl, rfl⟩ := newC_ok.1 h17
      obtain ⟨rfl, rfl⟩ := ret_ok.1 h18
      clear h6 h7 h8 h9
      subst hw1
      have q2 : Quiet st1 { st1 with fr := insN n st1.fr } := Quiet.get
      have q := (q1.trans q2).trans q3
      have hc0 : hget n st.hp = some (.row [] t') := by rw [← q1.hp]; exact hc
      have hc2 : hget n st2.hp = some (.row [] t') := by rw [q.hp]; exact hc0
      refine ⟨q.fn.trans (Fn.move st2 n _ _ hc2), fun B F ρ own w a b s ha hb => ?_⟩
      have s1 := s.of_quiet q
      have hby := of_decide_eq_true (hq3 s.ask)
      have hF : F n := s.log n (mem_ins.2 (.inl rfl))
      have ssrc : Sit repAt P B F st st1 ρ own w := ⟨fun k hk => s.log k (mem_ins.2 (.inr (q3.fr k (q2.fr k hk)))), s.wf, fun k hk => absurd hk (newN_self q1.nx), s.li, fun p hp => s.ask p (q3.ask p (q2.ask p hp)), s.base⟩
      have hsr := hsrc B F ρ own w b ssrc hb
      obtain ⟨e, he, hat⟩ := s.li.at_ n _ hF hc0
      obtain ⟨ho, cs, vs, g1, g2, _, _, g5⟩ := hat
      have hcell : P.cellsOf t' = i.size := by simp [Program.cellsOf, hi]
      rw [hcell] at g5
      have hv : VecAt (fun _ => []) 0 t' i.size ⟨e.b, e.cap, e.off, i.size, 0, some ⟨e.b, e.off, none⟩⟩ (own n) w := ⟨rfl, rfl, Nat.zero_le _, (fun i hi => by omega), rfl, ho, cs, g1, g5, fun i hi => by omega⟩
      simp only [den, he, Option.map_some, Option.some.injEq, Nat.add_zero, Nat.sub_zero] at ha
      subst ha
      obtain ⟨e1, own1, w', hr, hm, hv', ho'⟩ := append_core (ty := ty) hu hi hb2 hz hzs hkx hv (Nat.le_refl 0) (by rw [Nat.zero_add]; exact hby) hsr
      have hj : joinF (fun _ => []) 0 (colsF g) = colsF g := by funext j; simp [joinF]
      rw [hj, Nat.zero_add] at hv'
      rw [Nat.zero_add] at hr
      have ht := Tr.move s1 hc2 e1 own1 hm (show CAt repAt P (ρ.put st2.nx e1) B e1 own1 (.rep (.vec g m t')) w' from (by rw [← hw2] at hv'; exact hv')) ho'
      refine ⟨_, _, _, _, hr, ?_, Tr.of_quiet q ht⟩
      simp only [den]
      rw [Names.put_same]
      rfl
    · exact (fail_ok.1 h8).elim
  · -- nil
    obtain ⟨_, _, h9, h6⟩ := bind_ok.1 h6
    obtain ⟨hw2, rfl⟩ := want_ok.1 h9
    have hw2 := Nat.eq_of_beq_eq_true hw2
    obtain ⟨_, st2, h11, h12⟩ := bind_ok.1 h6
    obtain ⟨q3, hq3⟩ := need_ok h11
    obtain ⟨n', st4, h17, h18⟩ := bind_ok.1 h12
    obtain ⟨rfl, rfl⟩ := newC_ok.1 h17
    obtain ⟨rfl, rfl⟩ := ret_ok.1 h18
    have q := q1.trans q3
    refine ⟨quiet_new q _, fun B F ρ own w a b s ha hb => ?_⟩
    have s1 := s.of_quiet q
    have hby := of_decide_eq_true (hq3 s.ask)
    have ssrc : Sit repAt P B F st st1 ρ own w := ⟨fun k hk => s.log k (q3.fr k hk), s.wf, fun k hk => absurd hk (newN_self q1.nx), s.li, fun p hp => s.ask p (q3.ask p hp), s.base⟩
    have hsr := hsrc B F ρ own w b ssrc hb
    have hv : VecAt (fun _ => []) 0 elem i.size ⟨0, 0, 0, i.size, 0, none⟩ [] w := ⟨rfl, rfl, Nat.zero_le _, (fun i hi => by omega), rfl, rfl⟩
    simp only [den, Option.some.injEq] at ha
    subst ha
    obtain ⟨e1, own1, w', hr, hm, hv', ho'⟩ := append_core (ty := ty) hu hi hb2 hz hzs hkx hv (Nat.le_refl 0) (by rw [Nat.zero_add]; exact hby) hsr
    have hj : joinF (fun _ => []) 0 (colsF g) = colsF g := by funext j; simp [joinF]
    rw [hj, Nat.zero_add] at hv'
    rw [Nat.zero_add] at hr
    have ht := Tr.new s1 e1 own1 (hm.mono fun x _ hx => by cases hx) (show CAt repAt P (ρ.put st2.nx e1) B e1 own1 (.rep (.vec g m elem)) w' from (by rw [← hw2] at hv'; exact hv')) (fun x hx => (ho' x hx).resolve_left (fun h => by cases h))
    refine ⟨_, _, _, _, hr, ?_, Tr.of_quiet q ht⟩
    simp only [den]
    rw [Names.put_same]
    rfl
  · exact (fail_ok.1 h6).elim

theorem extV_ok : ∀ ev o m, extV P ev o = some m → ∀ st s st', m st = .ok s st' → OpS repAt P o ev st st' s := by
  intro ev o m hm st s st' h
  obtain ⟨dst, op, ty, pos, aft, gu⟩ := o
  unfold extV at hm
  split at hm
  · next t x i he =>
    simp only at he
    subst he
    split at hm
    · next n len kd z hx hi =>
      generalize hu : P.underlying t = du at hm
      split at hm <;> cases hm
      obtain ⟨q, hs⟩ := vecIdx_s hu h
      refine ⟨q.fn, fun B F ρ own w a si hev K Q hk => ?_⟩
      have e := hev _ _ hi
      simp only [den, Option.some.injEq] at e
      obtain ⟨y, g1, g2⟩ := hs B F ρ own w _ kd si (hev _ _ hx)
      exact wp_val (vrun (by rw [← e]; exact g1)) (hk y ρ own w (si.quiet q) g2)
    · next n kd z hx hi =>
      generalize hu : P.underlying t = du at hm
      split at hm <;> cases hm
      obtain ⟨q, hs⟩ := arrIdx_s hu h
      refine ⟨q.fn, fun B F ρ own w a si hev K Q hk => ?_⟩
      have e := hev _ _ hi
      simp only [den, Option.some.injEq] at e
      obtain ⟨y, g1, g2⟩ := hs B F ρ own w _ si (hev _ _ hx)
      exact wp_val (vrun (by rw [← e]; exact g1)) (hk y ρ own w (si.quiet q) g2)
    · next n off idx len kd z hx hi =>
      generalize hu : P.underlying t = du at hm
      split at hm <;> try cases hm
      next elem =>
      split at hm <;> cases hm
      next k hp hk =>
      obtain ⟨q, hs⟩ := concIdx_s (idx := idx) (kd := kd) hu hk h
      refine ⟨q.fn, fun B F ρ own w a si hev K Q hk => ?_⟩
      have e := hev _ _ hi
      simp only [den, Option.some.injEq] at e
      obtain ⟨y, g1, g2⟩ := hs B F ρ own w _ si (hev _ _ hx)
      exact wp_val (vrun (by rw [← e]; exact g1)) (hk y ρ own w (si.quiet q) g2)
    · cases hm
  · next t x he =>
    simp only at he
    subst he
    split at hm <;> cases hm
    next n i j hx =>
    obtain ⟨q, hs⟩ := vecLoad_s h
    refine ⟨q.fn, fun B F ρ own w a si hev K Q hk => ?_⟩
    obtain ⟨y, g1, g2⟩ := hs B F ρ own w _ si (hev _ _ hx)
    exact wp_val (vrun g2) (hk y ρ own w (si.quiet q) g1)
  · next t x y he =>
    simp only at he
    subst he
    split at hm <;> try cases hm
    next n i j hx =>
    split at hm <;> cases hm
    next v hv =>
    obtain ⟨rfl, hf, hs⟩ := vecStore_s h
    refine ⟨hf, fun B F ρ own w a si hev K Q hk => ?_⟩
    obtain ⟨ρ', own', w', g1, g2⟩ := hs B F ρ own w _ _ si (hev _ _ hx) (hev _ _ hv)
    refine wp_unit ?_ (hk undef ρ' own' w' g2 rfl)
    simp only [execOp, Sem.run_bind, g1, Result.andThen_ok]
    rfl
  · next s0 x t tx he =>
    simp only at he
    subst he
    split at hm <;> try cases hm
    next a b ha hb =>
    split at hm <;> cases hm
    obtain ⟨hf, hs⟩ := vecAppend_s (ty := ty) h
    refine ⟨hf, fun B F ρ own w ac si hev K Q hk => ?_⟩
    obtain ⟨v, ρ', own', w', g1, g2, g3⟩ := hs B F ρ own w _ _ si (hev _ _ ha) (hev _ _ hb)
    refine wp_val ?_ (hk v ρ' own' w' g3 g2)
    have g4 : ∀ cs, (builtin .append #[t, tx] ty cs #[ac.eval s0, ac.eval x]).run P w = .ok (.value v) w' := fun cs => vrun g1
    simp only [execOp, resolve, Sem.run_bind, Sem.run_pure, Result.andThen_ok, invoke]
    rw [show (⟨[s0, x]⟩ : Array Operand).map ac.eval = #[ac.eval s0, ac.eval x] by simp]
    exact g4 _
  · cases hm
end
end Go.Proofs.Ytpaiejeipghehaa
end
section
/- A known row seen as a row of open number; nil seen as such a row. No condition. -/
namespace Go.Proofs.Ytpaiejeipghehaa
open Go.RowKit

mutual
/-- Slices of all of block n are seen as a row's. -/
def absS (sl : Bool) (n : Nat) : SV → Option SV
  | .v x => some (.v x)
  | .ptr m o => some (.ptr m o)
  | .sl m o i k => match Nat.beq m n with
    | true => match sl, o, i with
      | true, 0, 0 => some (.tsl m k)
      | _, _, _ => none
    | false => some (.sl m o i k)
  | .slE m => match Nat.beq m n with
    | true => none
    | false => some (.slE m)
  | .tptr m i j => match Nat.beq m n with
    | true => none
    | false => some (.tptr m i j)
  | .tsl m k => match Nat.beq m n with
    | true => none
    | false => some (.tsl m k)
  | .mp m => some (.mp m)
  | .ifc t x => (absS sl n x).map fun y => .ifc t y
  | .agg r => (absL sl n r).map fun r => .agg r
  | .tup r => (absL sl n r).map fun r => .tup r
  | .clo f a b => match absL sl n a, absL sl n b with
    | some a, some b => some (.clo f a b)
    | _, _ => none
def absL (sl : Bool) (n : Nat) : List SV → Option (List SV)
  | [] => some []
  | x :: r => match absS sl n x, absL sl n r with
    | some x, some r => some (x :: r)
    | _, _ => none
end
def absC (sl : Bool) (n : Nat) : Chunk Rep → Option (Chunk Rep)
  | .row l t => (absL sl n l).map fun l => .row l t
  | .tab _ _ _ => none
  | c => some c
def absHp (sl : Bool) (n : Nat) (c0 : Chunk Rep) : List (Nat × Chunk Rep) → Option (List (Nat × Chunk Rep))
  | [] => some []
  | (m, c) :: r => match Nat.beq m n with
    | true => (absHp sl n c0 r).map fun r => (m, c0) :: r
    | false => match absC sl n c, absHp sl n c0 r with
      | some c, some r => some ((m, c) :: r)
      | _, _ => none
def absE (sl : Bool) (n : Nat) : Env → Option Env
  | [] => some []
  | (t, s) :: r => match absS sl n s, absE sl n r with
    | some s, some r => some ((t, s) :: r)
    | _, _ => none
inductive Gen where
  | row (n m : Nat) (ks : List CK)
  | arr (n m : Nat) (ks : List CK)
  | nilE (tmp : Nat) (ks : List CK) (t : TypeId)
  | nilC (n j : Nat) (ks : List CK) (t : TypeId)
  | map (n : Nat)
  | junk (n : Nat)
def setAtE (t : Nat) (s : SV) : Env → Env
  | [] => []
  | (u, x) :: r => match Nat.beq t u with
    | true => (u, s) :: r
    | false => (u, x) :: setAtE t s r
def isNil : SV → Bool
  | .v (.slice none 0 0) => true
  | _ => false
def allInt (kd : IntKind) : List Value → Option (List Int)
  | [] => some []
  | .int kd' z :: r => match eqKd kd kd', allInt kd r with
    | true, some l => some (z :: l)
    | _, _ => none
  | _ :: _ => none
def allBool : List Value → Option (List Bool)
  | [] => some []
  | .bool b :: r => (allBool r).map fun l => b :: l
  | _ :: _ => none
def allStr : List Value → Option (List ByteArray)
  | [] => some []
  | .string b :: r => (allStr r).map fun l => b :: l
  | _ :: _ => none
def colOf : CK → List Value → Option Col
  | .int kd, l => (allInt kd l).map fun zs => .int kd fun i => zs.getD i 0
  | .bool, l => (allBool l).map fun bs => .bool fun i => bs.getD i false
  | .str, l => (allStr l).map fun bs => .str fun i => bs.getD i ByteArray.empty
  | .raw, l => some (.raw fun i => l.getD i undef)
def colVals (l : List Value) (m k j : Nat) : List Value := (List.range m).map fun i => l.getD (i * k + j) undef
def colsOf (l : List Value) (m k : Nat) : Nat → List CK → Option (List Col)
  | _, [] => some []
  | j, c :: r => match colOf c (colVals l m k j), colsOf l m k (j + 1) r with
    | some c, some r => some (c :: r)
    | _, _ => none
def nilCol : CK → Col
  | .int kd => .int kd fun _ => 0
  | .bool => .bool fun _ => false
  | .str => .str fun _ => ByteArray.empty
  | .raw => .raw fun _ => undef
def genX (P : Program) (g : Gen) (s : Sym Rep) : Option (Sym Rep) := match g with
  | .row n m ks => match hget n s.hp with
    | some (.row l t) => match plainL l with
      | some vs => match Nat.beq vs.length (m * ks.length) && Nat.beq (P.cellsOf t) ks.length && vs.all Value.oneCell' && !Nat.beq ks.length 0, colsOf vs m ks.length 0 ks with
        | true, some cs => match absE true n s.e, absHp true n (.rep (.vec cs m t)) s.hp with
          | some e, some hp => some ⟨e, hp, s.nx⟩
          | _, _ => none
        | _, _ => none
      | none => none
    | _ => none
  | .arr n m ks => match hget n s.hp with
    | some (.row l t) => match plainL l with
      | some vs => match Nat.beq vs.length (m * ks.length) && vs.all Value.oneCell' && !Nat.beq ks.length 0, colsOf vs m ks.length 0 ks with
        | true, some cs => match absE false n s.e, absHp false n (.rep (.vec cs m t)) s.hp with
          | some e, some hp => some ⟨e, hp, s.nx⟩
          | _, _ => none
        | _, _ => none
      | none => none
    | _ => none
  | .nilE tmp ks t => match elook tmp s.e with
    | some x => match isNil x with
      | true => some ⟨setAtE tmp (.tsl s.nx 0) s.e, (s.nx, .rep (.vec (ks.map nilCol) 0 t)) :: s.hp, s.nx + 1⟩
      | false => none
    | none => none
  | .nilC n j ks t => match hget n s.hp with
    | some (.row l t0) => match l[j]? with
      | some x => match isNil x with
        | true => some ⟨s.e, (s.nx, .rep (.vec (ks.map nilCol) 0 t)) :: hset n (.row (splice l j [.tsl s.nx 0]) t0) s.hp, s.nx + 1⟩
        | false => none
      | none => none
    | _ => none
  | .map n => match hget n s.hp with
    | some (.rep (.pmap l g c)) => some ⟨s.e, hset n (.rep (.pmap [] (getL l g) c)) s.hp, s.nx⟩
    | some (.rep (.ucells l g c)) => some ⟨s.e, hset n (.rep (.ucells [] (getL l g) c)) s.hp, s.nx⟩
    | some (.rep (.imap t l g c)) => some ⟨s.e, hset n (.rep (.imap t [] (getI l g) c)) s.hp, s.nx⟩
    | some (.row [.v (.slice none 0 0)] t) => match Nat.beq t tRC && Nat.beq (P.cellsOf tRC) 1 with
      | true => some ⟨s.e, hset n (.rep (.ucells [] zeroG 0)) s.hp, s.nx⟩
      | false => none
    | _ => none
  | .junk n => match hget n s.hp with
    | some _ => some ⟨s.e, hset n (.rep .junk) s.hp, s.nx⟩
    | none => none
def gensX (P : Program) : List Gen → Sym Rep → Option (Sym Rep)
  | [], s => some s
  | g :: r, s => match genX P g s with
    | some s => gensX P r s
    | none => none
/-- Names anew, seen otherwise, and anew. -/
def normX (P : Program) (gens : List Gen) (pins vars : List Nat) (s : Sym Rep) : Option (Sym Rep) := match canonX pins vars s with
  | some s1 => match gens with
    | [] => some s1
    | gens => match gensX P gens s1 with
      | some s2 => canonX pins vars s2
      | none => none
  | none => none

section
variable {P : Program} {ρ : Names} {n : Nat} {e e1 : Spot} {sl : Bool}
mutual
theorem den_abs (he : ρ n = some e) (hb : e1.b = e.b) (ho : e1.off = e.off) (hc : sl = true → e1.cap = e.cap) (had : sl = true → e1.ad = some ⟨e.b, e.off, none⟩) : ∀ (s s' : SV) (x : Value), absS sl n s = some s' → den ρ s = some x → den (ρ.put n e1) s' = some x
  | .v _, s', x, h, hx => by
    simp only [absS, Option.some.injEq] at h
    subst h
    exact hx
  | .ptr m o, s', x, h, hx => by
    simp only [absS, Option.some.injEq] at h
    subst h
    by_cases hm : m = n
    · subst hm
      simp only [den, Names.put_same, he, Option.map_some, hb, ho] at hx ⊢
      exact hx
    · simpa only [den, Names.put_other hm] using hx
  | .mp m, s', x, h, hx => by
    simp only [absS, Option.some.injEq] at h
    subst h
    by_cases hm : m = n
    · subst hm
      simp only [den, Names.put_same, he, Option.map_some, hb] at hx ⊢
      exact hx
    · simpa only [den, Names.put_other hm] using hx
  | .sl m o i k, s', x, h, hx => by
    simp only [absS] at h
    cases hq : Nat.beq m n with
    | true =>
      rw [hq] at h
      have hm := Nat.eq_of_beq_eq_true hq
      subst hm
      simp only at h
      split at h <;> cases h
      simp only [den, Names.put_same, he, Option.map_some, hc rfl, had rfl, Nat.add_zero, Nat.sub_zero] at hx ⊢
      exact hx
    | false =>
      rw [hq] at h
      injection h with h
      subst h
      simpa only [den, Names.put_other (Nat.ne_of_beq_eq_false hq)] using hx
  | .slE m, s', x, h, hx => by
    simp only [absS] at h
    cases hq : Nat.beq m n with
    | true => rw [hq] at h; cases h
    | false =>
      rw [hq] at h
      injection h with h
      subst h
      simpa only [den, Names.put_other (Nat.ne_of_beq_eq_false hq)] using hx
  | .tptr m i j, s', x, h, hx => by
    simp only [absS] at h
    cases hq : Nat.beq m n with
    | true => rw [hq] at h; cases h
    | false =>
      rw [hq] at h
      injection h with h
      subst h
      simpa only [den, Names.put_other (Nat.ne_of_beq_eq_false hq)] using hx
  | .tsl m k, s', x, h, hx => by
    simp only [absS] at h
    cases hq : Nat.beq m n with
    | true => rw [hq] at h; cases h
    | false =>
      rw [hq] at h
      injection h with h
      subst h
      simpa only [den, Names.put_other (Nat.ne_of_beq_eq_false hq)] using hx
  | .ifc t y, s', x, h, hx => by
    simp only [absS, Option.map_eq_some_iff] at h
    obtain ⟨y', hy, rfl⟩ := h
    simp only [den, Option.map_eq_some_iff] at hx ⊢
    obtain ⟨z, hz, hx⟩ := hx
    exact ⟨z, den_abs he hb ho hc had y y' z hy hz, hx⟩
  | .agg r, s', x, h, hx => by
    simp only [absS, Option.map_eq_some_iff] at h
    obtain ⟨y', hy, rfl⟩ := h
    simp only [den, Option.map_eq_some_iff] at hx ⊢
    obtain ⟨z, hz, hx⟩ := hx
    exact ⟨z, denL_abs he hb ho hc had r y' z hy hz, hx⟩
  | .tup r, s', x, h, hx => by
    simp only [absS, Option.map_eq_some_iff] at h
    obtain ⟨y', hy, rfl⟩ := h
    simp only [den, Option.map_eq_some_iff] at hx ⊢
    obtain ⟨z, hz, hx⟩ := hx
    exact ⟨z, denL_abs he hb ho hc had r y' z hy hz, hx⟩
  | .clo f a b, s', x, h, hx => by
    simp only [absS] at h
    split at h <;> cases h
    next a' b' ha hb' =>
    simp only [den] at hx ⊢
    split at hx <;> try cases hx
    next va vb h1 h2 =>
    rw [denL_abs he hb ho hc had a a' va ha h1, denL_abs he hb ho hc had b b' vb hb' h2]
theorem denL_abs (he : ρ n = some e) (hb : e1.b = e.b) (ho : e1.off = e.off) (hc : sl = true → e1.cap = e.cap) (had : sl = true → e1.ad = some ⟨e.b, e.off, none⟩) : ∀ (s s' : List SV) (x : List Value), absL sl n s = some s' → denL ρ s = some x → denL (ρ.put n e1) s' = some x
  | [], s', x, h, hx => by
    simp only [absL, Option.some.injEq] at h
    subst h
    exact hx
  | y :: r, s', x, h, hx => by
    simp only [absL] at h
    split at h <;> cases h
    next y' r' hy hr =>
    obtain ⟨a, b, h1, h2, rfl⟩ := denL_cons.1 hx
    exact denL_cons.2 ⟨a, b, den_abs he hb ho hc had y y' a hy h1, denL_abs he hb ho hc had r r' b hr h2, rfl⟩
end
theorem absHp_get {c0 : Chunk Rep} : ∀ {hp hp' : List (Nat × Chunk Rep)}, absHp sl n c0 hp = some hp' → ∀ m, (m = n → hget m hp' = (hget m hp).map fun _ => c0) ∧ (m ≠ n → ∀ c', hget m hp' = some c' → ∃ c, hget m hp = some c ∧ absC sl n c = some c') ∧ (hget m hp = none → hget m hp' = none)
  | [], hp', h, m => by
    simp only [absHp, Option.some.injEq] at h
    subst h
    exact ⟨fun _ => rfl, (fun _ c' hc => by cases hc), fun _ => rfl⟩
  | (k, c) :: r, hp', h, m => by
    simp only [absHp] at h
    cases hq : Nat.beq k n with
    | true =>
      rw [hq] at h
      simp only [Option.map_eq_some_iff] at h
      obtain ⟨r', hr, rfl⟩ := h
      have ih := absHp_get hr m
      have hk := Nat.eq_of_beq_eq_true hq
      subst hk
      simp only [hget_cons]
      refine ⟨fun hm => by subst hm; simp, fun hm c' hc' => ?_, fun hn => ?_⟩
      · rw [if_neg hm] at hc' ⊢
        exact ih.2.1 hm c' hc'
      · split at hn
        · cases hn
        · next hm => rw [if_neg hm]; exact ih.2.2 hn
    | false =>
      rw [hq] at h
      simp only at h
      split at h <;> cases h
      next c1 r' hc hr =>
      have ih := absHp_get hr m
      have hk := Nat.ne_of_beq_eq_false hq
      simp only [hget_cons]
      refine ⟨fun hm => ?_, fun hm c' hc' => ?_, fun hn => ?_⟩
      · subst hm
        rw [if_neg (Ne.symm hk), if_neg (Ne.symm hk)]
        exact ih.1 rfl
      · split at hc'
        · next hmk =>
          injection hc' with hc'
          subst hc'
          subst hmk
          exact ⟨c, by simp, hc⟩
        · next hmk =>
          rw [if_neg hmk]
          exact ih.2.1 hm c' hc'
      · split at hn
        · cases hn
        · next hm => rw [if_neg hm]; exact ih.2.2 hn
theorem absE_get : ∀ {en en' : Env}, absE sl n en = some en' → ∀ {t : Nat} {s : SV}, elook t en' = some s → ∃ s0, elook t en = some s0 ∧ absS sl n s0 = some s
  | [], en', h, t, s, hs => by
    simp only [absE, Option.some.injEq] at h
    subst h
    cases hs
  | (u, x) :: r, en', h, t, s, hs => by
    simp only [absE] at h
    split at h <;> cases h
    next x' r' hx hr =>
    rw [elook_cons] at hs ⊢
    split at hs
    · next htu =>
      injection hs with hs
      subst hs
      rw [if_pos htu]
      exact ⟨x, rfl, hx⟩
    · next htu =>
      rw [if_neg htu]
      exact absE_get hr hs

/-- Block n is seen otherwise. -/
theorem abs_view {pin : Nat} {s : Sym Rep} {l : List SV} {t : TypeId} {c0 : Chunk Rep} {en : Env} {hp : List (Nat × Chunk Rep)} (hn : hget n s.hp = some (.row l t)) (hpin : pin ≤ n) (hE : absE sl n s.e = some en) (hH : absHp sl n c0 s.hp = some hp)
    (hview : ∀ B (ρ : Names) own w e, ρ n = some e → CAt repAt P ρ B e own (.row l t) w → ∃ e1 : Spot, e1.b = e.b ∧ e1.off = e.off ∧ (sl = true → e1.cap = e.cap) ∧ (sl = true → e1.ad = some ⟨e.b, e.off, none⟩) ∧ CAt repAt P (ρ.put n e1) B e1 own c0 w) : View repAt P pin s ⟨en, hp, s.nx⟩ := by
  intro B ρ own w hs
  obtain ⟨e, he, hat⟩ := hs.li.at_ n _ trivial hn
  obtain ⟨e1, h1, h2, h3, h4, h5⟩ := hview B ρ (own n) w e he hat
  have hlt : n < s.nx := by
    rcases Nat.lt_or_ge n s.nx with h | h
    · exact h
    · rw [hs.top n h] at hn; cases hn
  have back : ∀ m c', hget m hp = some c' → ∃ c, hget m s.hp = some c := fun m c' hc' => by
    cases hx : hget m s.hp with
    | some c => exact ⟨c, rfl⟩
    | none => rw [(absHp_get hH m).2.2 hx] at hc'; cases hc'
  refine ⟨ρ.put n e1, own, ⟨⟨fun m c' _ hc' => ?_, fun m k c d _ _ hne hc hd => ?_, fun m c _ hc => ?_⟩, fun m hm => ?_, fun m hm => ?_, hs.base⟩, fun a ha u v hu => ?_, fun m c hc b hb => ?_, fun m hm => Names.put_other (by omega)⟩
  · by_cases hm : m = n
    · subst hm
      rw [(absHp_get hH m).1 rfl, hn] at hc'
      injection hc' with hc'
      subst hc'
      exact ⟨e1, Names.put_same, h5⟩
    · obtain ⟨c, hc, hcc⟩ := (absHp_get hH m).2.1 hm c' hc'
      obtain ⟨e2, g1, g2⟩ := hs.li.at_ m c trivial hc
      refine ⟨e2, by rw [Names.put_other hm]; exact g1, ?_⟩
      cases c with
      | row l' t' =>
        simp only [absC, Option.map_eq_some_iff] at hcc
        obtain ⟨l2, q1, rfl⟩ := hcc
        obtain ⟨q2, cs, vs, q3, q4, q5⟩ := g2
        exact ⟨q2, cs, vs, q3, denL_abs he h1 h2 h3 h4 _ _ _ q1 q4, q5⟩
      | tab f len t => cases hcc
      | emp => injection hcc with hcc; subst hcc; exact g2
      | rep r => injection hcc with hcc; subst hcc; exact g2
  · obtain ⟨c1, hc1⟩ := back m c hc
    obtain ⟨d1, hd1⟩ := back k d hd
    exact hs.li.dis m k c1 d1 trivial trivial hne hc1 hd1
  · obtain ⟨c1, hc1⟩ := back m c hc
    exact hs.li.low m c1 trivial hc1
  · exact (absHp_get hH m).2.2 (hs.top m hm)
  · simp only at hm
    rw [Names.put_other (by omega)]
    exact hs.fresh m hm
  · obtain ⟨s0, q1, q2⟩ := absE_get hE hu
    obtain ⟨x, q3, q4⟩ := ha u s0 q1
    exact ⟨x, q3, den_abs he h1 h2 h3 h4 s0 v x q2 q4⟩
  · obtain ⟨c1, hc1⟩ := back m c hc
    exact ⟨m, c1, hc1, hb⟩

theorem nil_of {x : SV} (h : isNil x = true) : x = .v (.slice none 0 0) := by
  unfold isNil at h
  split at h
  · rfl
  · cases h
theorem setAtE_get {t : Nat} {x : SV} : ∀ {en : Env} {u : Nat} {s : SV}, elook u (setAtE t x en) = some s → elook u en = some s ∨ (u = t ∧ s = x)
  | [], u, s, h => .inl h
  | (k, y) :: r, u, s, h => by
    simp only [setAtE] at h
    cases hb : Nat.beq t k with
    | true =>
      rw [hb] at h
      have htk := Nat.eq_of_beq_eq_true hb
      subst htk
      rw [elook_cons] at h ⊢
      split at h
      · next hu => injection h with h; exact .inr ⟨hu, h.symm⟩
      · next hu => rw [if_neg hu]; exact .inl h
    | false =>
      rw [hb] at h
      rw [elook_cons] at h ⊢
      split at h
      · next hu => rw [if_pos hu]; exact .inl h
      · next hu => rw [if_neg hu]; exact setAtE_get h
/-- A name more, for nil. -/
theorem nil_stand {s : Sym Rep} {B : Nat} {cs : List Col} {t : TypeId} {own : Nat → List Nat} {w : World} (hs : Stand repAt P B s ρ own w) : Stand repAt P B ⟨s.e, (s.nx, .rep (.vec cs 0 t)) :: s.hp, s.nx + 1⟩ (ρ.put s.nx ⟨0, 0, 0, cs.length, 0, none⟩) (ownPut own s.nx []) w ∧ ρ.le (ρ.put s.nx ⟨0, 0, 0, cs.length, 0, none⟩) := by
  have hle : ρ.le (ρ.put s.nx ⟨0, 0, 0, cs.length, 0, none⟩) := Names.put_le (hs.fresh _ (Nat.le_refl _))
  have hlt : ∀ m c, hget m s.hp = some c → m ≠ s.nx := fun m c hc e => by rw [e, hs.top _ (Nat.le_refl _)] at hc; cases hc
  refine ⟨⟨⟨fun m c _ hc => ?_, fun m k' c d _ _ hne hc hd b hb => ?_, fun m c _ hc b hb => ?_⟩, fun m hm => ?_, fun m hm => ?_, hs.base⟩, hle⟩
  · simp only [hget_cons] at hc
    split at hc
    · next e =>
      subst e
      injection hc with hc
      subst hc
      refine ⟨_, Names.put_same, ?_⟩
      rw [ownPut_same]
      exact (⟨rfl, rfl, Nat.le_refl _, (fun i hi => by omega), rfl, rfl⟩ : VecAt (colsF cs) 0 t cs.length ⟨0, 0, 0, cs.length, 0, none⟩ [] w)
    · next e =>
      obtain ⟨e2, g1, g2⟩ := hs.li.at_ m c trivial hc
      refine ⟨e2, hle _ _ g1, ?_⟩
      rw [ownPut_other e]
      exact g2.stable hle (ModP.refl (fun _ => False) w) (fun _ _ h => h) (fun _ h => h.elim)
  · simp only [hget_cons] at hc hd
    split at hc
    · next e => subst e; rw [ownPut_same] at hb; cases hb
    · next e =>
      split at hd
      · next e2 => subst e2; rw [ownPut_same]; simp
      · next e2 =>
        rw [ownPut_other e] at hb
        rw [ownPut_other e2]
        exact hs.li.dis m k' c d trivial trivial hne hc hd b hb
  · simp only [hget_cons] at hc
    split at hc
    · next e => subst e; rw [ownPut_same] at hb; cases hb
    · next e =>
      rw [ownPut_other e] at hb
      exact hs.li.low m c trivial hc b hb
  · simp only at hm
    rw [hget_cons, if_neg (by omega)]
    exact hs.top m (by omega)
  · simp only at hm
    rw [Names.put_other (by omega)]
    exact hs.fresh m (by omega)
/-- A piece is seen as something else. -/
theorem swap_view {pin n : Nat} {s : Sym Rep} {c0 c1 : Chunk Rep} (hn : hget n s.hp = some c0) (hc : ∀ B ρ own w e, ρ n = some e → CAt repAt P ρ B e own c0 w → ∃ own', CAt repAt P ρ B e own' c1 w ∧ ∀ x ∈ own', x ∈ own) : View repAt P pin s ⟨s.e, hset n c1 s.hp, s.nx⟩ := by
  intro B ρ own w hs
  have hsame : ∀ m d, hget m (hset n c1 s.hp) = some d → (m = n ∧ d = c1) ∨ (m ≠ n ∧ hget m s.hp = some d) := by
    intro m d hd
    rw [hget_set] at hd
    split at hd
    · next e =>
      rw [hn] at hd
      injection hd with hd
      exact .inl ⟨e, hd.symm⟩
    · next e => exact .inr ⟨e, hd⟩
  have any : ∀ m d, hget m (hset n c1 s.hp) = some d → ∃ d', hget m s.hp = some d' := fun m d hd => by
    rcases hsame m d hd with ⟨rfl, _⟩ | ⟨_, h⟩
    · exact ⟨_, hn⟩
    · exact ⟨_, h⟩
  obtain ⟨e, he, hat⟩ := hs.li.at_ n _ trivial hn
  obtain ⟨own', h1, h2⟩ := hc B ρ (own n) w e he hat
  have sub : ∀ m, ∀ x ∈ ownPut own n own' m, x ∈ own m := fun m x hx => by
    by_cases hm : m = n
    · subst hm
      rw [ownPut_same] at hx
      exact h2 x hx
    · rw [ownPut_other hm] at hx
      exact hx
  refine ⟨ρ, ownPut own n own', ⟨⟨fun m d _ hd => ?_, fun m k' d d' _ _ hne hd hd' b hb hb' => ?_, fun m d _ hd b hb => ?_⟩, fun m hm => ?_, hs.fresh, hs.base⟩, fun _ h => h, fun m d hd b hb => ?_, fun _ _ => rfl⟩
  · rcases hsame m d hd with ⟨rfl, rfl⟩ | ⟨hm, h⟩
    · exact ⟨e, he, by rw [ownPut_same]; exact h1⟩
    · rw [ownPut_other hm]
      exact hs.li.at_ m d trivial h
  · obtain ⟨d1, hd1⟩ := any m d hd
    obtain ⟨d2, hd2⟩ := any k' d' hd'
    exact hs.li.dis m k' d1 d2 trivial trivial hne hd1 hd2 b (sub m b hb) (sub k' b hb')
  · obtain ⟨d1, hd1⟩ := any m d hd
    exact hs.li.low m d1 trivial hd1 b (sub m b hb)
  · cases hq : hget m (hset n c1 s.hp) with
    | none => rfl
    | some d =>
      obtain ⟨d1, hd1⟩ := any m d hq
      rw [hs.top m hm] at hd1
      cases hd1
  · obtain ⟨d1, hd1⟩ := any m d hd
    exact ⟨m, d1, hd1, sub m b hb⟩
/-- A row's elements under another law. -/
theorem vec_view {pin n len : Nat} {t : TypeId} {cs cs' : List Col} {s : Sym Rep} (hn : hget n s.hp = some (.rep (.vec cs len t))) (hl : cs'.length = cs.length) (hf : ∀ i, i < len → colsF cs i = colsF cs' i) : View repAt P pin s ⟨s.e, hset n (.rep (.vec cs' len t)) s.hp, s.nx⟩ :=
  swap_view hn fun B ρ own w e he hat => ⟨own, by
    obtain ⟨h1, h2, h3, h4, h5⟩ := (show VecAt (colsF cs) len t cs.length e own w from hat)
    refine (⟨h1, by rw [hl]; exact h2, h3, fun i hi => by rw [← hf i hi, hl]; exact h4 i hi, ?_⟩ : VecAt (colsF cs') len t cs'.length e own w)
    rw [hl]
    cases ha : e.ad with
    | none => rw [ha] at h5; exact h5
    | some g =>
      rw [ha] at h5
      obtain ⟨g1, g2, cs, g3, g4, g5⟩ := h5
      exact ⟨g1, g2, cs, g3, g4, fun i hi j hj => by rw [← hf i hi]; exact g5 i hi j hj⟩, fun _ h => h⟩
theorem allInt_ok {kd : IntKind} : ∀ {l : List Value} {zs : List Int}, allInt kd l = some zs → l = zs.map (.int kd)
  | [], zs, h => by
    simp only [allInt, Option.some.injEq] at h
    subst h
    rfl
  | v :: r, zs, h => by
    cases v with
    | int kd' z =>
      simp only [allInt] at h
      split at h <;> cases h
      next l hk hl =>
      obtain rfl := eqKd_ok hk
      rw [allInt_ok hl]
      rfl
    | _ => cases h
theorem allBool_ok : ∀ {l : List Value} {bs : List Bool}, allBool l = some bs → l = bs.map .bool
  | [], zs, h => by
    simp only [allBool, Option.some.injEq] at h
    subst h
    rfl
  | v :: r, zs, h => by
    cases v with
    | bool b =>
      simp only [allBool, Option.map_eq_some_iff] at h
      obtain ⟨l, hl, rfl⟩ := h
      rw [allBool_ok hl]
      rfl
    | _ => cases h
theorem allStr_ok : ∀ {l : List Value} {bs : List ByteArray}, allStr l = some bs → l = bs.map .string
  | [], zs, h => by
    simp only [allStr, Option.some.injEq] at h
    subst h
    rfl
  | v :: r, zs, h => by
    cases v with
    | string b =>
      simp only [allStr, Option.map_eq_some_iff] at h
      obtain ⟨l, hl, rfl⟩ := h
      rw [allStr_ok hl]
      rfl
    | _ => cases h
theorem getD_map_lt {α β : Type} {f : α → β} {l : List α} {i : Nat} (hi : i < l.length) (d : α) (d' : β) : (l.map f).getD i d' = f (l.getD i d) := by
  simp [List.getD_eq_getElem?_getD, List.getElem?_map, List.getElem?_eq_getElem hi]
theorem colOf_ok {c : CK} {l : List Value} {r : Col} (h : colOf c l = some r) {i : Nat} (hi : i < l.length) : r.at i = l.getD i undef := by
  cases c with
  | int kd =>
    simp only [colOf, Option.map_eq_some_iff] at h
    obtain ⟨zs, hz, rfl⟩ := h
    rw [allInt_ok hz] at hi ⊢
    rw [List.length_map] at hi
    exact (getD_map_lt hi 0 undef).symm
  | bool =>
    simp only [colOf, Option.map_eq_some_iff] at h
    obtain ⟨zs, hz, rfl⟩ := h
    rw [allBool_ok hz] at hi ⊢
    rw [List.length_map] at hi
    exact (getD_map_lt hi false undef).symm
  | str =>
    simp only [colOf, Option.map_eq_some_iff] at h
    obtain ⟨zs, hz, rfl⟩ := h
    rw [allStr_ok hz] at hi ⊢
    rw [List.length_map] at hi
    exact (getD_map_lt hi ByteArray.empty undef).symm
  | raw =>
    simp only [colOf, Option.some.injEq] at h
    subst h
    rfl
theorem colsOf_ok {l : List Value} {m k : Nat} : ∀ {ks : List CK} {j : Nat} {cs : List Col}, colsOf l m k j ks = some cs → cs.length = ks.length ∧ ∀ i, i < m → colsF cs i = (List.range' j ks.length).map fun j => l.getD (i * k + j) undef
  | [], j, cs, h => by
    injection h with h
    subst h
    exact ⟨rfl, fun i _ => rfl⟩
  | c :: r, j, cs, h => by
    simp only [colsOf] at h
    split at h <;> cases h
    next c1 r1 h1 h2 =>
    obtain ⟨g1, g2⟩ := colsOf_ok h2
    refine ⟨by simp [g1], fun i hi => ?_⟩
    have hlen : i < (colVals l m k j).length := by simp [colVals, hi]
    simp only [colsF, colOf_ok h1 hlen, g2 i hi, List.length_cons, List.range'_succ, List.map_cons]
    congr 1
    simp [colVals, List.getD_eq_getElem?_getD, hi]
theorem colsOf_rows {l : List Value} {m : Nat} {ks : List CK} {cs : List Col} (h : colsOf l m ks.length 0 ks = some cs) (hl : l.length = m * ks.length) {i : Nat} (hi : i < m) : colsF cs i = rowsF ks.length l i := by
  obtain ⟨_, g⟩ := colsOf_ok h
  rw [g i hi]
  have hle : (i + 1) * ks.length ≤ m * ks.length := Nat.mul_le_mul_right _ hi
  rw [Nat.add_mul, Nat.one_mul] at hle
  apply List.ext_getElem?
  intro j
  by_cases hj : j < ks.length
  · rw [rowsF_get hj]
    simp only [List.getElem?_map, List.getElem?_range' hj, Option.map_some, Nat.zero_add, Nat.one_mul]
    rw [List.getD_eq_getElem?_getD, List.getElem?_eq_getElem (by omega)]
    rfl
  · rw [List.getElem?_eq_none (by simp; omega), List.getElem?_eq_none (by simp [rowsF]; omega)]
theorem nilU_at {B : Nat} {e : Spot} {own : List Nat} {w : World} (h1 : P.cellsOf tRC = 1) (h : CAt repAt P ρ B e own (.row [.v (.slice none 0 0)] tRC) w) : UAt (getL [] zeroG) 0 e own w := by
  obtain ⟨rfl, cs, vs, g1, g2, g3, g4, g5⟩ := h
  simp only [denL, den, Option.some.injEq] at g2
  subst g2
  rw [h1, Nat.mul_one] at g4 g5
  exact ⟨fun _ => 0, fun _ => 0, fun _ => 0, fun _ => 0, 0, ⟨0, 0, 0, 4, 0, none⟩, [], rfl, by simp, ⟨cs, g1, g3 0 (by simp), g4, g5⟩, ⟨rfl, rfl, Nat.le_refl _, (fun i hi => absurd hi (Nat.not_lt_zero _)), rfl, rfl⟩, ⟨(fun k hk => absurd hk (Nat.not_lt_zero _)), (fun k hk => absurd hk (Nat.not_lt_zero _)), fun _ _ => rfl, fun j k hj => absurd hj (Nat.not_lt_zero _)⟩, Nat.le_refl _⟩
theorem gen_view {pin : Nat} {g : Gen} {s s' : Sym Rep} (hpin : ∀ n m ks, g = .row n m ks ∨ g = .arr n m ks → pin ≤ n) (hnx : pin ≤ s.nx) (h : genX P g s = some s') : View repAt P pin s s' := by
  unfold genX at h
  split at h
  · next n m ks =>
    split at h <;> try cases h
    next l t hn =>
    split at h <;> try cases h
    next vs hvs =>
    split at h <;> try cases h
    next cs hb hcs =>
    split at h <;> cases h
    next e hp he hhp =>
    simp only [Bool.and_eq_true, Bool.not_eq_true'] at hb
    obtain ⟨⟨⟨hb1, hb2⟩, hb3⟩, hb4⟩ := hb
    have hb1 := Nat.eq_of_beq_eq_true hb1
    have hb2 := Nat.eq_of_beq_eq_true hb2
    have hb3 := List.all_eq_true.1 hb3
    have hb4 := Nat.ne_of_beq_eq_false hb4
    have hlen := (colsOf_ok hcs).1
    refine abs_view hn (hpin n m ks (.inl rfl)) he hhp fun B ρ own w e he hat => ?_
    obtain ⟨h1, ds, us, h2, h3, h4, h5, h6⟩ := hat
    have hus := plainL_den hvs h3
    subst hus
    rw [hb2] at h5 h6
    refine ⟨⟨e.b, e.cap, e.off, ks.length, m, some ⟨e.b, e.off, none⟩⟩, rfl, rfl, fun _ => rfl, fun _ => rfl, ?_⟩
    refine (⟨rfl, hlen.symm, ?_, fun i hi => ?_, rfl, h1, ds, h2, ?_, fun i hi j hj => ?_⟩ : VecAt (colsF cs) m t cs.length ⟨e.b, e.cap, e.off, ks.length, m, some ⟨e.b, e.off, none⟩⟩ own w)
    · rw [hb1] at h5
      exact Nat.le_of_mul_le_mul_right h5 (by omega)
    · rw [colsOf_rows hcs hb1 hi, hlen]
      exact rowsOK hb1 hb3 hi
    · rw [hlen]
      exact h6
    · rw [hlen] at hj ⊢
      have hx : (i + 1) * ks.length ≤ m * ks.length := Nat.mul_le_mul_right _ hi
      rw [Nat.add_mul, Nat.one_mul] at hx
      show ds[e.off + (i * ks.length + j)]? = _
      rw [h4 _ (by omega), colsOf_rows hcs hb1 hi, rowsF_get hj]
  · next n m ks =>
    split at h <;> try cases h
    next l t hn =>
    split at h <;> try cases h
    next vs hvs =>
    split at h <;> try cases h
    next cs hb hcs =>
    split at h <;> cases h
    next e hp he hhp =>
    simp only [Bool.and_eq_true, Bool.not_eq_true'] at hb
    obtain ⟨⟨hb1, hb3⟩, hb4⟩ := hb
    have hb1 := Nat.eq_of_beq_eq_true hb1
    have hb3 := List.all_eq_true.1 hb3
    have hb4 := Nat.ne_of_beq_eq_false hb4
    have hlen := (colsOf_ok hcs).1
    refine abs_view hn (hpin n m ks (.inr rfl)) he hhp fun B ρ own w e he hat => ?_
    obtain ⟨h1, ds, us, h2, h3, h4, h5, h6⟩ := hat
    have hus := plainL_den hvs h3
    subst hus
    refine ⟨⟨e.b, m, e.off, ks.length, m, some ⟨e.b, e.off, none⟩⟩, rfl, rfl, (fun h => by cases h), (fun h => by cases h), ?_⟩
    refine (⟨rfl, hlen.symm, Nat.le_refl _, fun i hi => ?_, rfl, h1, ds, h2, ?_, fun i hi j hj => ?_⟩ : VecAt (colsF cs) m t cs.length ⟨e.b, m, e.off, ks.length, m, some ⟨e.b, e.off, none⟩⟩ own w)
    · rw [colsOf_rows hcs hb1 hi, hlen]
      exact rowsOK hb1 hb3 hi
    · rw [hlen]
      show e.off + m * ks.length ≤ _
      omega
    · rw [hlen] at hj ⊢
      have hx : (i + 1) * ks.length ≤ m * ks.length := Nat.mul_le_mul_right _ hi
      rw [Nat.add_mul, Nat.one_mul] at hx
      show ds[e.off + (i * ks.length + j)]? = _
      rw [h4 _ (by omega), colsOf_rows hcs hb1 hi, rowsF_get hj]
  · next tmp ks t =>
    split at h <;> try cases h
    next x hx =>
    split at h <;> cases h
    next hnil =>
    have hnil := nil_of hnil
    subst hnil
    intro B ρ own w hs
    obtain ⟨h1, hle⟩ := nil_stand (t := t) (cs := ks.map nilCol) hs
    refine ⟨_, _, ⟨h1.li, h1.top, h1.fresh, h1.base⟩, fun a ha u v hu => ?_, fun m c hc b hb => ?_, fun m hm => Names.put_other (by omega)⟩
    · rcases setAtE_get hu with hu | ⟨rfl, rfl⟩
      · obtain ⟨y, q1, q2⟩ := ha u v hu
        exact ⟨y, q1, den_mono hle _ _ q2⟩
      · obtain ⟨y, q1, q2⟩ := ha u _ hx
        refine ⟨y, q1, ?_⟩
        simp only [den, Option.some.injEq, Names.put_same, Option.map_some] at q2 ⊢
        exact q2
    · simp only [hget_cons] at hc
      split at hc
      · next e => subst e; rw [ownPut_same] at hb; cases hb
      · next e => rw [ownPut_other e] at hb; exact ⟨m, c, hc, hb⟩
  · next n j ks t =>
    split at h <;> try cases h
    next l t0 hn =>
    split at h <;> try cases h
    next x hx =>
    split at h <;> cases h
    next hnil =>
    have hnil := nil_of hnil
    subst hnil
    intro B ρ own w hs
    obtain ⟨h1, hle⟩ := nil_stand (t := t) (cs := ks.map nilCol) hs
    have hlt : n ≠ s.nx := fun e => by rw [e, hs.top _ (Nat.le_refl _)] at hn; cases hn
    have hsame : ∀ m c, hget m ((s.nx, (.rep (.vec (ks.map nilCol) 0 t) : Chunk Rep)) :: hset n (.row (splice l j [.tsl s.nx 0]) t0) s.hp) = some c → (m = n ∧ c = .row (splice l j [.tsl s.nx 0]) t0) ∨ (m ≠ n ∧ hget m ((s.nx, (.rep (.vec (ks.map nilCol) 0 t) : Chunk Rep)) :: s.hp) = some c) := by
      intro m c hc
      by_cases hm : m = n
      · subst hm
        rw [hget_cons, if_neg hlt, hget_set, if_pos rfl, hn] at hc
        injection hc with hc
        exact .inl ⟨rfl, hc.symm⟩
      · refine .inr ⟨hm, ?_⟩
        rw [hget_cons] at hc ⊢
        split at hc
        · next e => rw [if_pos e]; exact hc
        · next e =>
          rw [if_neg e]
          rw [hget_set, if_neg hm] at hc
          exact hc
    have hold : hget n ((s.nx, (.rep (.vec (ks.map nilCol) 0 t) : Chunk Rep)) :: s.hp) = some (.row l t0) := by rw [hget_cons, if_neg hlt]; exact hn
    have any : ∀ m c, hget m ((s.nx, (.rep (.vec (ks.map nilCol) 0 t) : Chunk Rep)) :: hset n (.row (splice l j [.tsl s.nx 0]) t0) s.hp) = some c → ∃ d, hget m ((s.nx, (.rep (.vec (ks.map nilCol) 0 t) : Chunk Rep)) :: s.hp) = some d := fun m c hc => by
      rcases hsame m c hc with ⟨rfl, _⟩ | ⟨_, h⟩
      · exact ⟨_, hold⟩
      · exact ⟨_, h⟩
    refine ⟨_, ownPut own s.nx [], ⟨⟨fun m c _ hc => ?_, fun m k' c d _ _ hne hc hd => ?_, fun m c _ hc => ?_⟩, fun m hm => ?_, h1.fresh, h1.base⟩, fun a ha u v hu => ?_, fun m c hc b hb => ?_, fun m hm => Names.put_other (by omega)⟩
    · rcases hsame m c hc with ⟨rfl, rfl⟩ | ⟨hm, hc⟩
      · obtain ⟨e, g1, g2, cs, vs, g3, g4, g5, g6, g7⟩ := h1.li.at_ m _ trivial hold
        refine ⟨e, g1, g2, cs, vs, g3, ?_, g5, g6, g7⟩
        obtain ⟨y, q1, q2⟩ := denL_get g4 hx
        simp only [den, Option.some.injEq] at q1
        subst q1
        have hj := lt_of_some hx
        have hlen := denL_length g4
        have hsp := denL_splice g4 (m := [.tsl s.nx 0]) (us := [.slice none 0 0]) (by simp [denL, den, Names.put_same]) j
        rw [hsp]
        congr 1
        apply List.ext_getElem?
        intro i
        rw [show vs.take j ++ ([Value.slice none 0 0] ++ vs.drop (j + [Value.slice none 0 0].length)) = spliceV vs j [.slice none 0 0] from rfl, spliceV_get (by simp; omega)]
        split
        · rfl
        · split
          · next g8 g9 =>
            simp only [List.length_singleton] at g9
            obtain rfl : i = j := by omega
            simp [q2]
          · rfl
      · exact h1.li.at_ m c trivial hc
    · obtain ⟨c1, hc1⟩ := any m c hc
      obtain ⟨d1, hd1⟩ := any k' d hd
      exact h1.li.dis m k' c1 d1 trivial trivial hne hc1 hd1
    · obtain ⟨c1, hc1⟩ := any m c hc
      exact h1.li.low m c1 trivial hc1
    · cases hq : hget m ((s.nx, (.rep (.vec (ks.map nilCol) 0 t) : Chunk Rep)) :: hset n (.row (splice l j [.tsl s.nx 0]) t0) s.hp) with
      | none => rfl
      | some c =>
        obtain ⟨d, hd⟩ := any m c hq
        rw [h1.top m hm] at hd
        cases hd
    · obtain ⟨y, q1, q2⟩ := ha u v hu
      exact ⟨y, q1, den_mono hle _ _ q2⟩
    · obtain ⟨d, hd⟩ := any m c hc
      rw [hget_cons] at hd
      split at hd
      · next e => subst e; rw [ownPut_same] at hb; cases hb
      · next e => rw [ownPut_other e] at hb; exact ⟨m, d, hd, hb⟩
  · next n =>
    split at h <;> try cases h
    · next l g c hn => exact swap_view hn fun B ρ own w e he hat => ⟨own, hat, fun _ h => h⟩
    · next l g c hn => exact swap_view hn fun B ρ own w e he hat => ⟨own, hat, fun _ h => h⟩
    · next tt l g c hn => exact swap_view hn fun B ρ own w e he hat => ⟨own, hat, fun _ h => h⟩
    · next t hn =>
      split at h <;> cases h
      next hb =>
      simp only [Bool.and_eq_true] at hb
      obtain rfl := Nat.eq_of_beq_eq_true hb.1
      exact swap_view hn fun B ρ own w e he hat => ⟨own, nilU_at (Nat.eq_of_beq_eq_true hb.2) hat, fun _ h => h⟩
  · next n =>
    split at h <;> cases h
    next c0 hn =>
    exact swap_view hn fun B ρ own w e he hat => ⟨[], rfl, fun x hx => by cases hx⟩
theorem gens_view {s' : Sym Rep} : ∀ {gs : List Gen} {s : Sym Rep}, gensX P gs s = some s' → View repAt P 0 s s'
  | [], s, h => by
    simp only [gensX, Option.some.injEq] at h
    subst h
    exact View.refl
  | g :: r, s, h => by
    simp only [gensX] at h
    split at h
    · next s1 h1 => exact (gen_view (pin := 0) (fun _ _ _ _ => Nat.zero_le _) (Nat.zero_le _) h1).trans (gens_view h)
    · cases h
theorem norm_view {gs : List Gen} {vars : List Nat} {s s' : Sym Rep} (h : normX P gs [] vars s = some s') : View repAt P 0 s s' := by
  unfold normX at h
  split at h
  · next s1 h1 =>
    have v1 : View repAt P 0 s s1 := canon_view (pin := 0) h1
    split at h
    · injection h with h
      subst h
      exact v1
    · split at h
      · next s2 h2 => exact (v1.trans (gens_view h2)).trans (canon_view (pin := 0) h)
      · cases h
  · cases h
/-- A path: where it comes to, in names anew and seen otherwise; and its tests. -/
def pathG (P : Program) (lib : Lib Rep) (n sz k j : Nat) (cfg : Stop → List Gen × List Nat) (g : Goer) (fs : List Fr) (s : Sym Rep) (o : List (Option Bool)) : Option (Goer × List Fr × Sym Rep × List (Bool × Bool)) := match stepC P lib n sz k j g fs s.e ⟨s.hp, s.nx, [], [], [], o⟩ with
  | .ok r st => match normX P (cfg r).1 [] (cfg r).2 ⟨r.env, st.hp, st.nx⟩ with
    | some s' => some (r.next.1, r.next.2, s', st.ask)
    | none => none
  | .no _ _ => none
theorem Tri.pathG {lib : Lib Rep} {n sz k j : Nat} {g g' : Goer} {fs fs' : List Fr} {s s' : Sym Rep} {Q : Ex → Sym Rep → Prop} (hm : P.follows .mixedOrders = true) (hl : LibOK repAt P lib) {cfg : Stop → List Gen × List Nat} {o : List (Option Bool)} {asks : List (Bool × Bool)}
    (h : pathG P lib n sz k j cfg g fs s o = some (g', fs', s', asks)) (ha : AllAsk asks) (ht : Tri repAt P sz 0 g' fs' s' Q) : Tri repAt P sz 0 g fs s Q := by
  unfold Proofs.Ytpaiejeipghehaa.pathG at h
  split at h
  · next r st hr =>
    split at h
    · next s1 hs =>
      simp only [Option.some.injEq, Prod.mk.injEq] at h
      obtain ⟨rfl, rfl, rfl, rfl⟩ := h
      exact Tri.run hm hl hr ha.all (Nat.zero_le _) (Tri.view (norm_view hs) ht)
    · cases h
  · cases h
/-- The same, the first names kept. -/
def pinsB (pin : Nat) : Gen → Bool
  | .row n _ _ => Nat.ble pin n
  | .arr n _ _ => Nat.ble pin n
  | _ => true
def gensP (P : Program) (pin : Nat) : List Gen → Sym Rep → Option (Sym Rep)
  | [], s => some s
  | g :: r, s => match pinsB pin g && Nat.ble pin s.nx, genX P g s with
    | true, some s => gensP P pin r s
    | _, _ => none
theorem gensP_view {pin : Nat} {s' : Sym Rep} : ∀ {gs : List Gen} {s : Sym Rep}, gensP P pin gs s = some s' → View repAt P pin s s'
  | [], s, h => by
    simp only [gensP, Option.some.injEq] at h
    subst h
    exact View.refl
  | g :: r, s, h => by
    simp only [gensP] at h
    split at h
    · next hb h1 =>
      simp only [Bool.and_eq_true] at hb
      refine (gen_view (pin := pin) (fun n m ks hg => ?_) (Nat.le_of_ble_eq_true hb.2) h1).trans (gensP_view h)
      rcases hg with rfl | rfl <;> exact Nat.le_of_ble_eq_true hb.1
    · cases h
def normP (P : Program) (pin : Nat) (gens : List Gen) (vars : List Nat) (s : Sym Rep) : Option (Sym Rep) := match canonX (List.range pin) vars s with
  | some s1 => match gens with
    | [] => some s1
    | gens => match gensP P pin gens s1 with
      | some s2 => canonX (List.range pin) vars s2
      | none => none
  | none => none
theorem normP_view {pin : Nat} {gs : List Gen} {vars : List Nat} {s s' : Sym Rep} (h : normP P pin gs vars s = some s') : View repAt P pin s s' := by
  unfold normP at h
  split at h
  · next s1 h1 =>
    have v1 : View repAt P pin s s1 := canon_view h1
    split at h
    · injection h with h
      subst h
      exact v1
    · split at h
      · next s2 h2 => exact (v1.trans (gensP_view h2)).trans (canon_view h)
      · cases h
  · cases h
def pathP (P : Program) (lib : Lib Rep) (pin n sz k j : Nat) (cfg : Stop → List Gen × List Nat) (g : Goer) (fs : List Fr) (s : Sym Rep) (o : List (Option Bool)) : Option (Goer × List Fr × Sym Rep × List (Bool × Bool)) := match stepC P lib n sz k j g fs s.e ⟨s.hp, s.nx, [], [], [], o⟩ with
  | .ok r st => match normP P pin (cfg r).1 (cfg r).2 ⟨r.env, st.hp, st.nx⟩ with
    | some s' => some (r.next.1, r.next.2, s', st.ask)
    | none => none
  | .no _ _ => none
theorem Tri.pathP {lib : Lib Rep} {pin n sz k j : Nat} {g g' : Goer} {fs fs' : List Fr} {s s' : Sym Rep} {Q : Ex → Sym Rep → Prop} (hm : P.follows .mixedOrders = true) (hl : LibOK repAt P lib) {cfg : Stop → List Gen × List Nat} {o : List (Option Bool)} {asks : List (Bool × Bool)} (hpin : Nat.ble pin s.nx = true)
    (h : pathP P lib pin n sz k j cfg g fs s o = some (g', fs', s', asks)) (ha : AllAsk asks) (ht : Tri repAt P sz pin g' fs' s' Q) : Tri repAt P sz pin g fs s Q := by
  unfold Proofs.Ytpaiejeipghehaa.pathP at h
  split at h
  · next r st hr =>
    split at h
    · next s1 hs =>
      simp only [Option.some.injEq, Prod.mk.injEq] at h
      obtain ⟨rfl, rfl, rfl, rfl⟩ := h
      exact Tri.run hm hl hr ha.all (Nat.le_of_ble_eq_true hpin) (Tri.view (normP_view hs) ht)
    · cases h
  · cases h
end
end Go.Proofs.Ytpaiejeipghehaa
end
section
/- Maps from whole numbers to ints, for the executor. No condition. -/
namespace Go.Proofs.Ytpaiejeipghehaa
open Go.RowKit

def imInt (q : IntKind) : SV → Option Int
  | .v (.int kd x) => match decide (kd = q) with
    | true => some x
    | false => none
  | _ => none
theorem imInt_ok {q : IntKind} {s : SV} {x : Int} (h : imInt q s = some x) : s = .v (.int q x) := by
  unfold imInt at h
  split at h
  · split at h
    · next hd => obtain rfl := of_decide_eq_true hd; cases h; rfl
    · cases h
  · cases h
def imGet (t : TypeId) (q : IntKind) (ok : Bool) (m k : Option SV) : M Rep SV := (M.opt 350 m).bind fun
  | .mp n => (getC n).bind fun
    | .rep (.imap t' l g _) => (M.opt 351 (k.bind (imInt q))).bind fun p => (want 356 (Nat.beq t t')).bind fun _ => (need 352 (Lit.int q p).wf).bind fun _ =>
      .ret (match ok with
        | true => .tup [.v (.int .i64 ((getI l g p).getD 0)), .v (.bool (getI l g p).isSome)]
        | false => .v (.int .i64 ((getI l g p).getD 0)))
    | _ => .fail 353
  | _ => .fail 354
def imPut (t : TypeId) (q : IntKind) (m k v : Option SV) : M Rep SV := (M.opt 360 m).bind fun
  | .mp n => (getC n).bind fun
    | .rep (.imap t' l g c) => (M.opt 361 (k.bind (imInt q))).bind fun p => (M.opt 362 (v.bind (imInt .i64))).bind fun x => (want 366 (Nat.beq t t')).bind fun _ => (need 363 ((Lit.int q p).wf && (Lit.int .i64 x).wf && decide (c < maxLen))).bind fun _ =>
      (setC n (.rep (.imap t' ((p, some x) :: l) g (c + 1)))).bind fun _ => .ret undefX
    | _ => .fail 364
  | _ => .fail 365
def imDel (t : TypeId) (q : IntKind) (m k : Option SV) : M Rep SV := (M.opt 370 m).bind fun
  | .mp n => (getC n).bind fun
    | .rep (.imap t' l g c) => (M.opt 371 (k.bind (imInt q))).bind fun p => (want 376 (Nat.beq t t')).bind fun _ => (need 372 (Lit.int q p).wf).bind fun _ =>
      (setC n (.rep (.imap t' ((p, none) :: l) g c))).bind fun _ => .ret (.tup [])
    | _ => .fail 373
  | _ => .fail 374
noncomputable def extI (ev : Operand → Option SV) (o : Oper) : Option (M Rep SV) := match o.op with
  | .makeMap t none => (imKind t).map fun _ => (newC (.rep (.imap t [] noneG 0))).bind fun n => .ret (.mp n)
  | .lookup t m k ok => (imKind t).map fun kq => imGet t kq.2 ok (ev m) (ev k)
  | .mapUpdate t m k v => (imKind t).map fun kq => imPut t kq.2 (ev m) (ev k) (ev v)
  | .call ⟨.builtin .delete, ⟨[m, k]⟩, ⟨[t, kt]⟩⟩ => match imKind t with
    | some kq => match Nat.beq kt kq.1 with
      | true => some (imDel t kq.2 (ev m) (ev k))
      | false => none
    | none => none
  | _ => none

section
variable {st st' : St Rep} {o : Oper} {ev : Operand → Option SV} {s : SV}
set_option maxRecDepth 100000 in
theorem extI_ok : ∀ ev o m, extI ev o = some m → ∀ st s st', m st = .ok s st' → OpS repAt Try.prog o ev st st' s := by
  intro ev o m hm st s st' h
  obtain ⟨dst, op, ty, pos, aft, gu⟩ := o
  unfold extI at hm
  split at hm
  · -- makeMap
    next t he =>
    simp only at he
    subst he
    simp only [Option.map_eq_some_iff] at hm
    obtain ⟨⟨kt, q⟩, hk, rfl⟩ := hm
    obtain ⟨hu, hkk⟩ := imKind_ok hk
    obtain ⟨n, st1, h1, h2⟩ := bind_ok.1 h
    obtain ⟨rfl, rfl⟩ := newC_ok.1 h1
    obtain ⟨rfl, rfl⟩ := ret_ok.1 h2
    refine ⟨Fn.new _ _, fun B F ρ own w a si hev K Q hk' => ?_⟩
    have ht := Tr.new (w' := w.alloc (.map #[] 0)) si ⟨w.heap.size, 0, 0, 0, 0, none⟩ [w.heap.size] (alloc_mod w _) (show Rep.At B (.imap t [] noneG 0) ⟨w.heap.size, 0, 0, 0, 0, none⟩ [w.heap.size] _ from ⟨rfl, kt, q, hk, IMapAt.new kt q w⟩) (fun b hb => by
      rw [List.mem_singleton] at hb
      subst hb
      simp)
    refine wp_val (x := .map (some w.heap.size)) ?_ (hk' _ _ _ _ ht (by simp [den, Names.put_same]))
    simp only [execOp, Option.map_none, Sem.run_bind, run_makeMap]
    rfl
  · -- lookup
    next t m k ok he =>
    simp only at he
    subst he
    simp only [Option.map_eq_some_iff] at hm
    obtain ⟨⟨kt, q⟩, hk, rfl⟩ := hm
    obtain ⟨hu, hkk⟩ := imKind_ok hk
    obtain ⟨sm, _, h1, h2⟩ := bind_ok.1 h
    obtain ⟨hsm, rfl⟩ := opt_ok.1 h1
    split at h2
    · next n =>
      obtain ⟨c, st1, h3, h4⟩ := bind_ok.1 h2
      obtain ⟨hc, rfl⟩ := getC_ok.1 h3
      split at h4
      · next t' l g cnt =>
        obtain ⟨p, _, h5, h6⟩ := bind_ok.1 h4
        obtain ⟨hp, rfl⟩ := opt_ok.1 h5
        simp only [Option.bind_eq_some_iff] at hp
        obtain ⟨sk, hsk, hp⟩ := hp
        obtain ⟨_, _, hw1, hw2⟩ := bind_ok.1 h6
        obtain ⟨htt, rfl⟩ := want_ok.1 hw1
        obtain rfl := Nat.eq_of_beq_eq_true htt
        obtain ⟨_, st2, h7, h8⟩ := bind_ok.1 hw2
        obtain ⟨q2, hq⟩ := need_ok h7
        obtain ⟨rfl, rfl⟩ := ret_ok.1 h8
        have qq := Quiet.get.trans q2
        refine ⟨qq.fn, fun B F ρ own w a si hev K Q hk' => ?_⟩
        obtain ⟨e, he, hat⟩ := si.li.at_ n _ (si.log n (q2.fr n (mem_ins.2 (.inl rfl)))) hc
        have e1 := hev _ _ hsm
        simp only [den, he, Option.map_some, Option.some.injEq] at e1
        obtain rfl := imInt_ok hp
        have e2 := hev _ _ hsk
        simp only [den, Option.some.injEq] at e2
        obtain ⟨ho, kt', q', hk2, hmap⟩ := CAt_rep.1 hat
        obtain ⟨rfl, rfl⟩ := Prod.mk.inj (Option.some.inj (hk.symm.trans hk2))
        have hwf := hq si.ask
        cases ok with
        | false =>
          refine wp_val (vrun ?_) (hk' _ ρ own w (si.quiet qq) rfl)
          rw [← e1, ← e2]
          exact hmap.lookup hkk hwf hu
        | true =>
          refine wp_val (vrun ?_) (hk' _ ρ own w (si.quiet qq) (by simp [den, denL]; rfl))
          rw [← e1, ← e2]
          exact hmap.look_ok hkk hwf hu
      · exact (fail_ok.1 h4).elim
    · exact (fail_ok.1 h2).elim
  · -- update
    next t m k v he =>
    simp only at he
    subst he
    simp only [Option.map_eq_some_iff] at hm
    obtain ⟨⟨kt, q⟩, hk, rfl⟩ := hm
    obtain ⟨hu, hkk⟩ := imKind_ok hk
    obtain ⟨sm, _, h1, h2⟩ := bind_ok.1 h
    obtain ⟨hsm, rfl⟩ := opt_ok.1 h1
    split at h2
    · next n =>
      obtain ⟨c, st1, h3, h4⟩ := bind_ok.1 h2
      obtain ⟨hc, rfl⟩ := getC_ok.1 h3
      split at h4
      · next t' l g cnt =>
        obtain ⟨p, _, h5, h6⟩ := bind_ok.1 h4
        obtain ⟨hp, rfl⟩ := opt_ok.1 h5
        simp only [Option.bind_eq_some_iff] at hp
        obtain ⟨sk, hsk, hp⟩ := hp
        obtain ⟨x, _, h7, h8⟩ := bind_ok.1 h6
        obtain ⟨hx, rfl⟩ := opt_ok.1 h7
        simp only [Option.bind_eq_some_iff] at hx
        obtain ⟨sv, hsv, hx⟩ := hx
        obtain ⟨_, _, hw1, hw2⟩ := bind_ok.1 h8
        obtain ⟨htt, rfl⟩ := want_ok.1 hw1
        obtain rfl := Nat.eq_of_beq_eq_true htt
        obtain ⟨_, st2, h9, h10⟩ := bind_ok.1 hw2
        obtain ⟨q2, hq⟩ := need_ok h9
        obtain ⟨_, st3, h11, h12⟩ := bind_ok.1 h10
        obtain ⟨_, rfl⟩ := setC_ok.1 h11
        obtain ⟨rfl, rfl⟩ := ret_ok.1 h12
        have qq := Quiet.get.trans q2
        have hc2 : hget n st2.hp = some (.rep (.imap t l g cnt)) := by rw [qq.hp]; exact hc
        refine ⟨qq.fn.trans (Fn.set st2 n (.rep (.imap t ((p, some x) :: l) g (cnt + 1))) _ hc2), fun B F ρ own w a si hev K Q hk' => ?_⟩
        have s1 := si.of_quiet qq
        have hn := hq si.ask
        simp only [Bool.and_eq_true, decide_eq_true_eq] at hn
        obtain ⟨⟨n1, n2⟩, n4⟩ := hn
        obtain ⟨e, he, hat⟩ := s1.li.at_ n _ (s1.log n (mem_ins.2 (.inl rfl))) hc2
        have e1 := hev _ _ hsm
        simp only [den, he, Option.map_some, Option.some.injEq] at e1
        obtain rfl := imInt_ok hp
        have e2 := hev _ _ hsk
        obtain rfl := imInt_ok hx
        have e3 := hev _ _ hsv
        simp only [den, Option.some.injEq] at e2 e3
        obtain ⟨ho, kt', q', hk2, hmap⟩ := CAt_rep.1 hat
        obtain ⟨rfl, rfl⟩ := Prod.mk.inj (Option.some.inj (hk.symm.trans hk2))
        obtain ⟨w', hr, hm', hmod⟩ := hmap.store n4 hkk n1 n2 hu
        have ht := Tr.set s1 hc2 he (own n) ((ModP.of_mod hmod).mono (fun b _ hb => by rw [ho]; exact hb)) (show Rep.At B (.imap t ((p, some x) :: l) g (cnt + 1)) e (own n) w' from ⟨ho, kt, q, hk, hm'⟩) (fun b hb => .inl hb)
        refine wp_unit ?_ (hk' undef _ _ _ (Tr.of_quiet qq ht) rfl)
        simp only [execOp, ← e1, ← e2, ← e3, Sem.run_bind, hr, Result.andThen_ok]
        rfl
      · exact (fail_ok.1 h4).elim
    · exact (fail_ok.1 h2).elim
  · -- delete
    next m k t kt he =>
    simp only at he
    subst he
    split at hm <;> try cases hm
    next kq hk =>
    obtain ⟨kt0, q⟩ := kq
    obtain ⟨hu, hkk⟩ := imKind_ok hk
    split at hm <;> cases hm
    next ht2 =>
    have ht2 := Nat.eq_of_beq_eq_true ht2
    simp only at ht2
    subst ht2
    obtain ⟨sm, _, h1, h2⟩ := bind_ok.1 h
    obtain ⟨hsm, rfl⟩ := opt_ok.1 h1
    split at h2
    · next n =>
      obtain ⟨c, st1, h3, h4⟩ := bind_ok.1 h2
      obtain ⟨hc, rfl⟩ := getC_ok.1 h3
      split at h4
      · next t' l g cnt =>
        obtain ⟨p, _, h5, h6⟩ := bind_ok.1 h4
        obtain ⟨hp, rfl⟩ := opt_ok.1 h5
        simp only [Option.bind_eq_some_iff] at hp
        obtain ⟨sk, hsk, hp⟩ := hp
        obtain ⟨_, _, hw1, hw2⟩ := bind_ok.1 h6
        obtain ⟨htt, rfl⟩ := want_ok.1 hw1
        obtain rfl := Nat.eq_of_beq_eq_true htt
        obtain ⟨_, st2, h9, h10⟩ := bind_ok.1 hw2
        obtain ⟨q2, hq⟩ := need_ok h9
        obtain ⟨_, st3, h11, h12⟩ := bind_ok.1 h10
        obtain ⟨_, rfl⟩ := setC_ok.1 h11
        obtain ⟨rfl, rfl⟩ := ret_ok.1 h12
        have qq := Quiet.get.trans q2
        have hc2 : hget n st2.hp = some (.rep (.imap t l g cnt)) := by rw [qq.hp]; exact hc
        refine ⟨qq.fn.trans (Fn.set st2 n (.rep (.imap t ((p, none) :: l) g cnt)) _ hc2), fun B F ρ own w a si hev K Q hk' => ?_⟩
        have s1 := si.of_quiet qq
        obtain ⟨e, he, hat⟩ := s1.li.at_ n _ (s1.log n (mem_ins.2 (.inl rfl))) hc2
        have e1 := hev _ _ hsm
        simp only [den, he, Option.map_some, Option.some.injEq] at e1
        obtain rfl := imInt_ok hp
        have e2 := hev _ _ hsk
        simp only [den, Option.some.injEq] at e2
        obtain ⟨ho, kt', q', hk2, hmap⟩ := CAt_rep.1 hat
        obtain ⟨rfl, rfl⟩ := Prod.mk.inj (Option.some.inj (hk.symm.trans hk2))
        obtain ⟨w', hr, hm', hmod⟩ := hmap.drop hkk (hq si.ask) hu ty
        have ht := Tr.set s1 hc2 he (own n) ((ModP.of_mod hmod).mono (fun b _ hb => by rw [ho]; exact hb)) (show Rep.At B (.imap t ((p, none) :: l) g cnt) e (own n) w' from ⟨ho, kt, q, hk, hm'⟩) (fun b hb => .inl hb)
        refine wp_val (x := .tuple #[]) ?_ (hk' _ _ _ _ (Tr.of_quiet qq ht) rfl)
        have hargs : (#[m, k].map a.eval : Array Value) = #[.map (some e.b), .int q p] := by
          have : (#[m, k] : Array Operand).map a.eval = #[a.eval m, a.eval k] := by simp
          rw [this, ← e1, ← e2]
        simp only [execOp, resolve, Sem.run_bind, Sem.run_pure, Result.andThen_ok, invoke, builtin]
        rw [show (⟨[m, k]⟩ : Array Operand).map a.eval = #[.map (some e.b), .int q p] from hargs, hr]
        rfl
      · exact (fail_ok.1 h4).elim
    · exact (fail_ok.1 h2).elim
  · cases hm
end
end Go.Proofs.Ytpaiejeipghehaa
end
section
/- The executor with maps from places to words. No condition. -/
namespace Go.Proofs.Ytpaiejeipghehaa
theorem own_ : ownKnob Try.prog.godebug = none := by kernel_rfl
theorem laid_ : laidOutB Try.prog = true := by kernel_rfl
theorem mixed : Try.prog.follows .mixedOrders = true := by kernel_rfl
noncomputable def extX (ev : Operand → Option SV) (o : Oper) : Option (M Rep SV) := match extM ev o with
  | some m => some m
  | none => match extI ev o with
    | some m => some m
    | none => extV Try.prog ev o
theorem ext_ok : ∀ ev o m, extX ev o = some m → ∀ st s st', m st = .ok s st' → OpS repAt Try.prog o ev st st' s := by
  intro ev o m hm
  unfold extX at hm
  split at hm
  · next m' h =>
    injection hm with hm
    subst hm
    exact extM_ok ev o m' h
  · split at hm
    · next m' h =>
      injection hm with hm
      subst hm
      exact extI_ok ev o m' h
    · exact extV_ok ev o m hm
noncomputable def lib0 : Lib Rep := ⟨fun _ _ => none, extX, some tidyG⟩
theorem lib0_ok : LibOK repAt Try.prog lib0 := ⟨(fun _ _ _ h => by cases h), ext_ok, fun f h st s k => by injection h with h; subst h; exact tidyG_eq st s k⟩
/-- For calls of which all is known. -/
noncomputable def libT : Lib Rep := ⟨fun _ _ => none, extX, some (tidyF fRep)⟩
theorem libT_ok : LibOK repAt Try.prog libT := ⟨(fun _ _ _ h => by cases h), ext_ok, fun f h st s k => by injection h with h; subst h; exact tidyF_eq fRep_eq st s k⟩
noncomputable abbrev runT : FuncId → List SV → M Rep SV := callX Try.prog libT 10000
theorem runT_ok : CallOK repAt Try.prog runT := callX_s mixed libT_ok 10000
noncomputable abbrev run0 : FuncId → List SV → M Rep SV := callX Try.prog lib0 10000
theorem run0_ok : CallOK repAt Try.prog run0 := callX_s mixed lib0_ok 10000
end Go.Proofs.Ytpaiejeipghehaa
end
section
/- Rows of numbers as functions. No condition. -/
namespace Go.Proofs.Ytpaiejeipghehaa
theorem updI_same {α : Type} {W : Nat → α} {i : Nat} {v : α} : updI W i v i = v := by simp [updI]
theorem updI_other {α : Type} {W : Nat → α} {i j : Nat} {v : α} (h : j ≠ i) : updI W i v j = W j := by simp [updI, h]
theorem joinI_old {α : Type} {W V : Nat → α} {n i : Nat} (h : i < n) : joinI W n V i = W i := by simp [joinI, h]
theorem joinI_new {α : Type} {W V : Nat → α} {n i : Nat} (h : n ≤ i) : joinI W n V i = V (i - n) := by simp [joinI, Nat.not_lt.2 h]
theorem getL_nil {g : Pl → Int} : getL [] g = g := rfl
theorem getL_same {l : List (Pl × Int)} {g : Pl → Int} {p : Pl} {v : Int} : getL ((p, v) :: l) g p = v := by simp [getL]
theorem getL_other {l : List (Pl × Int)} {g : Pl → Int} {p q : Pl} {v : Int} (h : q ≠ p) : getL ((p, v) :: l) g q = getL l g q := by simp [getL, h]
end Go.Proofs.Ytpaiejeipghehaa
end
section
/- Words and their bits: wrapping, masks, shifts, in numbers. No condition. -/
namespace Go.Proofs.Ytpaiejeipghehaa

theorem wrapU {x : Int} (h0 : 0 ≤ x) (h1 : x < 18446744073709551616) : IntKind.u64.wrap x = x := by
  unfold IntKind.wrap
  simp [IntKind.bits, IntKind.signed]
  omega
theorem wrapI {x : Int} (h0 : -9223372036854775808 ≤ x) (h1 : x < 9223372036854775808) : IntKind.i64.wrap x = x := by
  unfold IntKind.wrap
  simp [IntKind.bits, IntKind.signed]
  omega
theorem wrapU_pos (x : Int) : 0 ≤ IntKind.u64.wrap x ∧ IntKind.u64.wrap x < 18446744073709551616 := by
  unfold IntKind.wrap
  simp [IntKind.bits, IntKind.signed]
  omega
theorem wrapU_mod (x : Int) : IntKind.u64.wrap x = x % 18446744073709551616 := by
  unfold IntKind.wrap
  simp [IntKind.bits, IntKind.signed]
theorem fdiv_nat (a b : Nat) : Int.fdiv (a : Int) (b : Int) = ((a / b : Nat) : Int) := by
  rw [Int.fdiv_eq_ediv_of_nonneg _ (by omega)]
  simp
theorem tdiv_nat (a b : Nat) : Int.tdiv (a : Int) (b : Int) = ((a / b : Nat) : Int) := rfl
theorem tmod_nat (a b : Nat) : Int.tmod (a : Int) (b : Int) = ((a % b : Nat) : Int) := rfl
theorem ofInt_nat (n : Nat) : BitVec.ofInt 64 (n : Int) = BitVec.ofNat 64 n := by simp
/-- A number's low bits. -/
theorem and_mask (a k : Nat) (hk : k ≤ 64) : (BitVec.ofNat 64 a &&& BitVec.ofNat 64 (2 ^ k - 1)).toNat = a % 2 ^ k := by
  rw [BitVec.toNat_and, BitVec.toNat_ofNat, BitVec.toNat_ofNat]
  have hp : 2 ^ k ≤ 2 ^ 64 := Nat.pow_le_pow_right (by omega) hk
  have h0 : 0 < 2 ^ k := Nat.two_pow_pos k
  rw [Nat.mod_eq_of_lt (a := 2 ^ k - 1) (by omega), Nat.and_two_pow_sub_one_eq_mod]
  have : 2 ^ 64 = 2 ^ k * 2 ^ (64 - k) := by rw [← Nat.pow_add]; congr 1; omega
  rw [this, Nat.mod_mul_right_mod]
/-- A word's field, as the program takes it: shifted, and masked. -/
def fieldP (w : Int) (sh k : Int) : Int := IntKind.u64.wrap ↑(BitVec.ofInt IntKind.u64.bits (w.fdiv (2 ^ min (IntKind.u64.wrap sh).toNat IntKind.u64.bits)) &&&
  BitVec.ofInt IntKind.u64.bits (Int.fdiv 18446744073709551615 (2 ^ min (IntKind.u64.wrap (IntKind.i64.wrap k)).toNat IntKind.u64.bits))).toNat
theorem fieldP_eq {w : Int} (h0 : 0 ≤ w) (sh k : Nat) (hsh : sh < 64) (hk : k ≤ 64) : fieldP w sh (64 - k : Nat) = w / 2 ^ sh % 2 ^ k := by
  obtain ⟨n, rfl⟩ := Int.eq_ofNat_of_zero_le h0
  unfold fieldP
  rw [wrapU (x := (sh : Int)) (by omega) (by omega), wrapI (x := ((64 - k : Nat) : Int)) (by omega) (by omega), wrapU (x := ((64 - k : Nat) : Int)) (by omega) (by omega)]
  simp only [Int.toNat_natCast]
  have e1 : min sh IntKind.u64.bits = sh := Nat.min_eq_left (by simp [IntKind.bits]; omega)
  have e2 : min (64 - k) IntKind.u64.bits = 64 - k := Nat.min_eq_left (by simp [IntKind.bits])
  rw [e1, e2]
  have e3 : (n : Int).fdiv (2 ^ sh) = ((n / 2 ^ sh : Nat) : Int) := by
    have := fdiv_nat n (2 ^ sh)
    simpa using this
  have e4 : Int.fdiv 18446744073709551615 (2 ^ (64 - k)) = ((2 ^ k - 1 : Nat) : Int) := by
    have h1 := fdiv_nat 18446744073709551615 (2 ^ (64 - k))
    have h2 : 18446744073709551615 / 2 ^ (64 - k) = 2 ^ k - 1 := by
      have h3 : 2 ^ 64 = 2 ^ k * 2 ^ (64 - k) := by rw [← Nat.pow_add]; congr 1; omega
      have h4 : 0 < 2 ^ (64 - k) := Nat.two_pow_pos _
      have h5 : 0 < 2 ^ k := Nat.two_pow_pos _
      have h6 : 18446744073709551615 = (2 ^ k - 1) * 2 ^ (64 - k) + (2 ^ (64 - k) - 1) := by
        rw [Nat.sub_mul, Nat.one_mul, ← h3]
        have : 2 ^ (64 - k) ≤ 2 ^ 64 := Nat.pow_le_pow_right (by omega) (by omega)
        omega
      rw [h6, Nat.mul_comm, Nat.mul_add_div h4, Nat.div_eq_of_lt (by omega)]
      omega
    rw [← h2]
    simpa using h1
  have e5 : (BitVec.ofInt IntKind.u64.bits ((n / 2 ^ sh : Nat) : Int) &&& BitVec.ofInt IntKind.u64.bits ((2 ^ k - 1 : Nat) : Int)).toNat = n / 2 ^ sh % 2 ^ k := by
    show (BitVec.ofInt 64 _ &&& BitVec.ofInt 64 _).toNat = _
    rw [ofInt_nat, ofInt_nat, and_mask _ k hk]
  rw [e3, e4, e5]
  have h6 : n / 2 ^ sh % 2 ^ k < 2 ^ 64 := Nat.lt_of_lt_of_le (Nat.mod_lt _ (Nat.two_pow_pos _)) (Nat.pow_le_pow_right (by omega) hk)
  rw [wrapU (by omega) (by omega)]
  simp
end Go.Proofs.Ytpaiejeipghehaa
end
section
/- Small words of many laws. No condition. -/
namespace Go.Proofs.Ytpaiejeipghehaa
abbrev iv (z : Int) : SV := .v (.int .i64 z)
abbrev uv (z : Int) : SV := .v (.int .u64 z)
theorem beq_flip (a b : Int) : (a == b) = (b == a) := by
  rw [Bool.eq_iff_iff, beq_iff_eq, beq_iff_eq]
  exact eq_comm
theorem beq_turn (a b : Int) : ((a == b) == (b == a)) = true := by
  rw [beq_iff_eq, Bool.eq_iff_iff, beq_iff_eq, beq_iff_eq]
  exact eq_comm
theorem put_ok {z : Int} {n : Nat} {p : Pl} (hp : plWfB p = true) (h0 : 0 < z) (h1 : z < 18446744073709551616) (hn : n < 9223372036854775807) : (plWfB p && (Lit.int IntKind.u64 z).wf && z != 0 && decide (n < maxLen)) = true := by
  simp only [Bool.and_eq_true, bne_iff_ne, decide_eq_true_eq, hp, true_and]
  refine ⟨⟨?_, by omega⟩, by unfold maxLen; omega⟩
  simp [Lit.wf, IntKind.min, IntKind.max, IntKind.signed, IntKind.bits]
  omega
theorem wb_put {z : Int} {n : Nat} {p : Pl} (hp : plWfB p = true) (hw : (Lit.int .u64 z).wf = true) (h0 : (z == 0) = false) (hn : (n : Int) ≤ 1000) : (plWfB p && (Lit.int IntKind.u64 z).wf && z != 0 && decide (n < maxLen)) = true := by
  simp only [Bool.and_eq_true, bne, h0, decide_eq_true_eq, hp, hw, true_and, Bool.not_false]
  unfold maxLen
  omega
theorem wrap_wf (z : Int) : (Lit.int .u64 (IntKind.u64.wrap z)).wf = true := by
  have h := wrapU_pos z
  simp [Lit.wf, IntKind.min, IntKind.max, IntKind.signed, IntKind.bits]
  omega
theorem two_uncons {α β : Type} {R : α → β → Prop} {l : α} {ls : List α} {c : List β} (h : Two R (l :: ls) c) : ∃ a r, c = a :: r ∧ R l a ∧ Two R ls r := by
  cases h with
  | cons h1 h2 => exact ⟨_, _, rfl, h1, h2⟩
theorem two_nil {α β : Type} {R : α → β → Prop} {c : List β} (h : Two R [] c) : c = [] := by
  cases h
  rfl
end Go.Proofs.Ytpaiejeipghehaa
end
section
/- The document's Cells, in rows: the states at the loops' heads of Get and Set. No condition. -/
namespace Go.Proofs.Ytpaiejeipghehaa
noncomputable abbrev ugF : FuncId := 80
noncomputable abbrev usF : FuncId := 78
noncomputable abbrev ugZ : Nat := slotsOf Try.prog ugF
noncomputable abbrev usZ : Nat := slotsOf Try.prog usF
noncomputable def ugL : Code × List Fr := loopOf Try.prog ugF 0
noncomputable def usL : Code × List Fr := loopOf Try.prog usF 0
structure UA where
  A0 : Nat → Int
  A1 : Nat → Int
  A2 : Nat → Int
  W : Nat → Int
  len : Nat
  p0 : Int
  p1 : Int
  p2 : Int
  v : Int
def UA.key (a : UA) (k : Nat) : Pl := (a.A0 k, a.A1 k, a.A2 k)
def UA.p (a : UA) : Pl := (a.p0, a.p1, a.p2)
def ugS (a : UA) (i : Int) : Sym Rep :=
  ⟨[(0, .ptr 0 0), (3, .ptr 1 0), (5, iv i)], [(0, .row [.tsl 2 a.len] tRC), (1, .row [iv a.p0, iv a.p1, iv a.p2] 113), (2, .rep (.vec (oneCols a.A0 a.A1 a.A2 a.W) a.len tOne))], 3⟩
def usS (a : UA) (i : Int) : Sym Rep :=
  ⟨[(2, uv a.v), (4, .ptr 1 0), (0, .ptr 0 0), (6, iv i)], [(0, .row [.tsl 2 a.len] tRC), (1, .row [iv a.p0, iv a.p1, iv a.p2] 113), (2, .rep (.vec (oneCols a.A0 a.A1 a.A2 a.W) a.len tOne))], 3⟩
def ugCfg : Stop → List Gen × List Nat
  | .fin .ret _ => ([], [4])
  | _ => ([], [0, 3, 5])
def usCfg : Stop → List Gen × List Nat
  | .fin .ret _ => ([], [])
  | _ => ([], [2, 4, 0, 6])
def UP (a : UA) (i : Int) : Prop := 0 ≤ i ∧ i ≤ (a.len : Int) ∧ a.len ≤ 1000000 ∧ ∀ k, k < i.toNat → a.key k ≠ a.p
def usCfg1 : Stop → List Gen × List Nat := fun _ => ([], [])
theorem Ends.of {P : Program} {fn : Func} {x : Ex} {s : Sym Rep} {t : Nat} {v : SV} {T : List SV → Sym Rep → Prop} (hr : fn.results.toList = [.tmp t]) (hx : x = .ret ∨ x = .nor) (he : elook t s.e = some v) (hT : T [v] s) : Ends P fn T x s := by
  refine ⟨hx, [v], ⟨s.hp, s.nx, [], [], [], []⟩, ?_, hT⟩
  rw [hr]
  simp only [resX, M.bind, M.opt, he, M.ret]
theorem Ends.none {P : Program} {fn : Func} {x : Ex} {s : Sym Rep} {T : List SV → Sym Rep → Prop} (hr : fn.results.toList = []) (hx : x = .ret ∨ x = .nor) (hT : T [] s) : Ends P fn T x s := by
  refine ⟨hx, [], ⟨s.hp, s.nx, [], [], [], []⟩, ?_, hT⟩
  rw [hr]
  rfl
/-- A Cells, its row's columns told. -/
def cellsHp (A0 A1 A2 W : Nat → Int) (len : Nat) : List (Nat × Chunk Rep) := [(0, .row [.tsl 1 len] tRC), (1, .rep (.vec (oneCols A0 A1 A2 W) len tOne))]
def UA.hit (a : UA) (k : Nat) : Prop := k < a.len ∧ a.key k = a.p
def UA.miss (a : UA) : Prop := ∀ k, k < a.len → a.key k ≠ a.p
def ugT (a : UA) (l : List SV) (s : Sym Rep) : Prop := ∃ x : Int, l = [uv x] ∧ s.hp = cellsHp a.A0 a.A1 a.A2 a.W a.len ∧ ((∃ k, a.hit k ∧ x = a.W k) ∨ a.miss ∧ x = 0)
def usT (a : UA) (l : List SV) (s : Sym Rep) : Prop := l = [] ∧ ((∃ k, a.hit k ∧ s.hp = cellsHp a.A0 a.A1 a.A2 (updI a.W k a.v) a.len) ∨ a.miss ∧ s.hp = cellsHp (joinI a.A0 a.len fun _ => a.p0) (joinI a.A1 a.len fun _ => a.p1) (joinI a.A2 a.len fun _ => a.p2) (joinI a.W a.len fun _ => a.v) (a.len + 1))
abbrev ugQ (a : UA) : Ex → Sym Rep → Prop := Ends Try.prog Try.f80 (ugT a)
abbrev usQ (a : UA) : Ex → Sym Rep → Prop := Ends Try.prog Try.f78 (usT a)
def ugI (a : UA) (r : Nat) (s : Sym Rep) : Prop := ∃ i, s = ugS a i ∧ UP a i ∧ r = a.len - i.toNat
def usI (a : UA) (r : Nat) (s : Sym Rep) : Prop := ∃ i, s = usS a i ∧ UP a i ∧ r = a.len - i.toNat
abbrev ugR (a : UA) (k : Nat) (x : Ex) (s : Sym Rep) : Prop := match x with
  | .nor => ∃ k', k' < k ∧ ugI a k' s
  | x => Tri repAt Try.prog ugZ 1 (.out x) ugL.2 s (ugQ a)
abbrev usR (a : UA) (k : Nat) (x : Ex) (s : Sym Rep) : Prop := match x with
  | .nor => ∃ k', k' < k ∧ usI a k' s
  | x => Tri repAt Try.prog usZ 1 (.out x) usL.2 s (usQ a)
theorem ug_next (a : UA) (i : Int) {r : Nat} (hP : UP a i) (hk : a.len - i.toNat < r) : Tri repAt Try.prog ugZ 1 (.out .nor) [] (ugS a i) (ugR a r) := Tri.fin ⟨_, hk, i, rfl, hP, rfl⟩
theorem us_next (a : UA) (i : Int) {r : Nat} (hP : UP a i) (hk : a.len - i.toNat < r) : Tri repAt Try.prog usZ 1 (.out .nor) [] (usS a i) (usR a r) := Tri.fin ⟨_, hk, i, rfl, hP, rfl⟩
theorem up_step {a : UA} {i : Int} (hP : UP a i) (h0 : decide (i < (a.len : Int)) = true) (h : (a.A0 i.toNat == a.p0 && (a.A1 i.toNat == a.p1 && (a.A2 i.toNat == a.p2 && true))) = false) : UP a (IntKind.i64.wrap (i + 1)) := by
  obtain ⟨i0, i1, hl, hk⟩ := hP
  have hlt := of_decide_eq_true h0
  rw [wrapI (by omega) (by omega)]
  refine ⟨by omega, by omega, hl, fun k hkk => ?_⟩
  by_cases e : k = i.toNat
  · subst e
    intro e
    simp only [UA.key, UA.p, Prod.mk.injEq] at e
    rw [e.1, e.2.1, e.2.2] at h
    simp at h
  · exact hk k (by omega)
theorem up_less {a : UA} {i : Int} (hP : UP a i) (h0 : decide (i < (a.len : Int)) = true) : a.len - (IntKind.i64.wrap (i + 1)).toNat < a.len - i.toNat := by
  obtain ⟨i0, i1, hl, hk⟩ := hP
  have hlt := of_decide_eq_true h0
  rw [wrapI (by omega) (by omega)]
  omega
theorem up_hit {a : UA} {i : Int} (hP : UP a i) (h0 : decide (i < (a.len : Int)) = true) (h : (a.A0 i.toNat == a.p0 && (a.A1 i.toNat == a.p1 && (a.A2 i.toNat == a.p2 && true))) = true) : a.hit i.toNat := by
  obtain ⟨i0, i1, hl, hk⟩ := hP
  have hlt := of_decide_eq_true h0
  simp only [Bool.and_eq_true, beq_iff_eq, and_true] at h
  exact ⟨by omega, by simp [UA.key, UA.p, h]⟩
theorem up_miss {a : UA} {i : Int} (hP : UP a i) (h0 : decide (i < (a.len : Int)) = false) : a.miss := by
  obtain ⟨i0, i1, hl, hk⟩ := hP
  have hlt := of_decide_eq_false h0
  exact fun k hk' => hk k (by omega)
end Go.Proofs.Ytpaiejeipghehaa
end
section
/- The document's Get and Set, run from point to point. No condition. -/
namespace Go.Proofs.Ytpaiejeipghehaa
set_option linter.unusedVariables false
set_option linter.unusedSimpArgs false
set_option maxRecDepth 100000
set_option maxHeartbeats 8000000

theorem ug_exit (a : UA) (i : Int) (hP : UP a i) (hm : a.miss) : Tri repAt Try.prog ugZ 1 (.out (.out 0)) ugL.2 (ugS a i) (ugQ a) := by
  exact Tri.pathP mixed lib0_ok (n := 10000) (k := 10000) (j := 0) (cfg := ugCfg) (o := []) (g' := .out .ret) (fs' := []) (s' := ⟨[(4, SV.v (Value.int IntKind.u64 (Int.ofNat 0)))], [(0, Chunk.row [SV.tsl 1 a.len] 40), (1, Chunk.rep (Rep.vec [Col.int IntKind.i64 a.A0, Col.int IntKind.i64 a.A1, Col.int IntKind.i64 a.A2, Col.int IntKind.u64 a.W] a.len 211))], 2⟩) (asks := []) rfl (by kernel_rfl) trivial (Tri.fin (Ends.of (t := 4) (v := uv 0) (by kernel_rfl) (.inl rfl) rfl ⟨0, rfl, rfl, .inr ⟨hm, rfl⟩⟩))
theorem ug_ret (a : UA) (i : Int) (h : a.hit i.toNat) : Tri repAt Try.prog ugZ 1 (.out .ret) ugL.2 ⟨[(4, uv (a.W i.toNat))], cellsHp a.A0 a.A1 a.A2 a.W a.len, 2⟩ (ugQ a) :=
  Tri.pathP mixed lib0_ok (n := 10000) (k := 10000) (j := 0) (cfg := ugCfg) (o := []) (g' := .out .ret) (fs' := []) (s' := ⟨[(4, uv (a.W i.toNat))], cellsHp a.A0 a.A1 a.A2 a.W a.len, 2⟩) (asks := []) rfl (by kernel_rfl) trivial (Tri.fin (Ends.of (t := 4) (by kernel_rfl) (.inl rfl) rfl ⟨_, rfl, rfl, .inl ⟨_, h, rfl⟩⟩))
theorem ug_round (a : UA) (i : Int) (hP : UP a i) {r : Nat} (hr : r = a.len - i.toNat) : Tri repAt Try.prog ugZ 1 (.go ugL.1) [] (ugS a i) (ugR a r) := by
  rcases Bool.eq_false_or_eq_true (decide (i < (↑a.len : Int))) with h0 | h0
  · have h1 : (decide (0 ≤ i ∧ i < (↑a.len : Int) ∧ a.len ≤ a.len)) = true := by (obtain ⟨i0, i1, hl, hk⟩ := hP; first | rfl | (simp only [decide_eq_true_eq, decide_eq_false_iff_not] at *; omega) | (simp; done))
    rcases Bool.eq_false_or_eq_true (a.A0 i.toNat == a.p0 && (a.A1 i.toNat == a.p1 && (a.A2 i.toNat == a.p2 && true))) with h2 | h2
    · exact Tri.pathP mixed lib0_ok (n := 10000) (k := 10000) (j := 0) (cfg := ugCfg) (o := List.replicate 4 (some true)) (g' := .out .ret) (fs' := []) (s' := ⟨[(4, SV.v (Value.int IntKind.u64 (a.W i.toNat)))], [(0, Chunk.row [SV.tsl 1 a.len] 40), (1, Chunk.rep (Rep.vec [Col.int IntKind.i64 a.A0, Col.int IntKind.i64 a.A1, Col.int IntKind.i64 a.A2, Col.int IntKind.u64 a.W] a.len 211))], 2⟩) (asks := [((decide (0 ≤ i ∧ i < (↑a.len : Int) ∧ a.len ≤ a.len)), true), ((a.A0 i.toNat == a.p0 && (a.A1 i.toNat == a.p1 && (a.A2 i.toNat == a.p2 && true))), true), ((decide (0 ≤ i ∧ i < (↑a.len : Int) ∧ a.len ≤ a.len)), true), ((decide (i < (↑a.len : Int))), true)]) rfl (by kernel_rfl) ⟨h1, h2, h1, h0, trivial⟩ (Tri.fin (ug_ret a i (up_hit hP h0 h2)))
    · exact Tri.pathP mixed lib0_ok (n := 10000) (k := 10000) (j := 0) (cfg := ugCfg) (o := [some true, some true] ++ [some false]) (g' := .out .nor) (fs' := []) (s' := ugS (a) (IntKind.i64.wrap (i + 1))) (asks := [((a.A0 i.toNat == a.p0 && (a.A1 i.toNat == a.p1 && (a.A2 i.toNat == a.p2 && true))), false), ((decide (0 ≤ i ∧ i < (↑a.len : Int) ∧ a.len ≤ a.len)), true), ((decide (i < (↑a.len : Int))), true)]) rfl (by kernel_rfl) ⟨h2, h1, h0, trivial⟩ (ug_next (a) (IntKind.i64.wrap (i + 1)) (up_step hP h0 h2) (by rw [hr]; exact up_less hP h0))
  · exact Tri.pathP mixed lib0_ok (n := 10000) (k := 10000) (j := 0) (cfg := ugCfg) (o := [some false]) (g' := .out (.out 0)) (fs' := []) (s' := ugS (a) (i)) (asks := [((decide (i < (↑a.len : Int))), false)]) rfl (by kernel_rfl) ⟨h0, trivial⟩ (Tri.fin (ug_exit (a) (i) hP (up_miss hP h0)))
theorem ug_start (a : UA) (hl : a.len ≤ 1000000)  : Tri repAt Try.prog ugZ 1 (.go (bodyOf Try.prog ugF)) [] (⟨argsE [.ptr 0 0, .agg [iv a.p0, iv a.p1, iv a.p2]], cellsHp a.A0 a.A1 a.A2 a.W a.len, 2⟩) (ugQ a) := by
  exact Tri.pathP mixed lib0_ok (n := 10000) (k := 10000) (j := 0) (cfg := ugCfg) (o := []) (g' := .go (.loop ugL.1)) (fs' := ugL.2) (s' := ugS (a) (Int.ofNat 0)) (asks := []) rfl (by kernel_rfl) trivial (Tri.loop (I := ugI a) (fun k s ⟨i, hs, hP, hk⟩ => by subst hs; exact ug_round a i hP hk) ⟨_, rfl, ⟨by decide, by simp, hl, fun k hk => absurd hk (Nat.not_lt_zero _)⟩, rfl⟩)
theorem us_exit (a : UA) (i : Int) (hP : UP a i) (hm : a.miss) : Tri repAt Try.prog usZ 1 (.out (.out 0)) usL.2 (usS a i) (usQ a) := by
  have h0 : decide (a.len ≤ a.len ∧ (a.len + 1) * 32 ≤ 140737488351232) = true := by
    have := hP.2.2.1
    simp only [decide_eq_true_eq]
    omega
  exact Tri.pathP mixed lib0_ok (n := 10000) (k := 10000) (j := 0) (cfg := usCfg1) (o := [some true]) (g' := .out .nor) (fs' := []) (s' := ⟨[], cellsHp (joinI a.A0 a.len fun _ => a.p0) (joinI a.A1 a.len fun _ => a.p1) (joinI a.A2 a.len fun _ => a.p2) (joinI a.W a.len fun _ => a.v) (a.len + 1), 2⟩) (asks := [(decide (a.len ≤ a.len ∧ (a.len + 1) * 32 ≤ 140737488351232), true)]) rfl (by kernel_rfl) ⟨h0, trivial⟩ (Tri.fin (Ends.none (by kernel_rfl) (.inr rfl) ⟨rfl, .inr ⟨hm, rfl⟩⟩))
theorem us_ret (a : UA) (i : Int) (h : a.hit i.toNat) : Tri repAt Try.prog usZ 1 (.out .ret) usL.2 ⟨[], cellsHp a.A0 a.A1 a.A2 (updI a.W i.toNat a.v) a.len, 2⟩ (usQ a) :=
  Tri.pathP mixed lib0_ok (n := 10000) (k := 10000) (j := 0) (cfg := usCfg1) (o := []) (g' := .out .ret) (fs' := []) (s' := ⟨[], cellsHp a.A0 a.A1 a.A2 (updI a.W i.toNat a.v) a.len, 2⟩) (asks := []) rfl (by kernel_rfl) trivial (Tri.fin (Ends.none (by kernel_rfl) (.inl rfl) ⟨rfl, .inl ⟨_, h, rfl⟩⟩))
theorem us_round (a : UA) (i : Int) (hP : UP a i) {r : Nat} (hr : r = a.len - i.toNat) : Tri repAt Try.prog usZ 1 (.go usL.1) [] (usS a i) (usR a r) := by
  rcases Bool.eq_false_or_eq_true (decide (i < (↑a.len : Int))) with h0 | h0
  · have h1 : (decide (0 ≤ i ∧ i < (↑a.len : Int) ∧ a.len ≤ a.len)) = true := by (obtain ⟨i0, i1, hl, hk⟩ := hP; first | rfl | (simp only [decide_eq_true_eq, decide_eq_false_iff_not] at *; omega) | (simp; done))
    rcases Bool.eq_false_or_eq_true (a.A0 i.toNat == a.p0 && (a.A1 i.toNat == a.p1 && (a.A2 i.toNat == a.p2 && true))) with h2 | h2
    · exact Tri.pathP mixed lib0_ok (n := 10000) (k := 10000) (j := 0) (cfg := usCfg) (o := List.replicate 4 (some true)) (g' := .out .ret) (fs' := []) (s' := ⟨[], [(0, Chunk.row [SV.tsl 1 a.len] 40), (1, Chunk.rep (Rep.vec [Col.int IntKind.i64 a.A0, Col.int IntKind.i64 a.A1, Col.int IntKind.i64 a.A2, Col.int IntKind.u64 (updI a.W i.toNat a.v)] a.len 211))], 2⟩) (asks := [((decide (0 ≤ i ∧ i < (↑a.len : Int) ∧ a.len ≤ a.len)), true), ((a.A0 i.toNat == a.p0 && (a.A1 i.toNat == a.p1 && (a.A2 i.toNat == a.p2 && true))), true), ((decide (0 ≤ i ∧ i < (↑a.len : Int) ∧ a.len ≤ a.len)), true), ((decide (i < (↑a.len : Int))), true)]) rfl (by kernel_rfl) ⟨h1, h2, h1, h0, trivial⟩ (Tri.fin (us_ret a i (up_hit hP h0 h2)))
    · exact Tri.pathP mixed lib0_ok (n := 10000) (k := 10000) (j := 0) (cfg := usCfg) (o := [some true, some true] ++ [some false]) (g' := .out .nor) (fs' := []) (s' := usS (a) (IntKind.i64.wrap (i + 1))) (asks := [((a.A0 i.toNat == a.p0 && (a.A1 i.toNat == a.p1 && (a.A2 i.toNat == a.p2 && true))), false), ((decide (0 ≤ i ∧ i < (↑a.len : Int) ∧ a.len ≤ a.len)), true), ((decide (i < (↑a.len : Int))), true)]) rfl (by kernel_rfl) ⟨h2, h1, h0, trivial⟩ (us_next (a) (IntKind.i64.wrap (i + 1)) (up_step hP h0 h2) (by rw [hr]; exact up_less hP h0))
  · exact Tri.pathP mixed lib0_ok (n := 10000) (k := 10000) (j := 0) (cfg := usCfg) (o := [some false]) (g' := .out (.out 0)) (fs' := []) (s' := usS (a) (i)) (asks := [((decide (i < (↑a.len : Int))), false)]) rfl (by kernel_rfl) ⟨h0, trivial⟩ (Tri.fin (us_exit (a) (i) hP (up_miss hP h0)))
theorem us_start (a : UA) (hl : a.len ≤ 1000000)  : Tri repAt Try.prog usZ 1 (.go (bodyOf Try.prog usF)) [] (⟨argsE [.ptr 0 0, .agg [iv a.p0, iv a.p1, iv a.p2], uv a.v], cellsHp a.A0 a.A1 a.A2 a.W a.len, 2⟩) (usQ a) := by
  exact Tri.pathP mixed lib0_ok (n := 10000) (k := 10000) (j := 0) (cfg := usCfg) (o := []) (g' := .go (.loop usL.1)) (fs' := usL.2) (s' := usS (a) (Int.ofNat 0)) (asks := []) rfl (by kernel_rfl) trivial (Tri.loop (I := usI a) (fun k s ⟨i, hs, hP, hk⟩ => by subst hs; exact us_round a i hP hk) ⟨_, rfl, ⟨by decide, by simp, hl, fun k hk => absurd hk (Nat.not_lt_zero _)⟩, rfl⟩)
end Go.Proofs.Ytpaiejeipghehaa
end
section
/- The document's Get and Set as functions on words. Condition: a few places at most. -/
namespace Go.Proofs.Ytpaiejeipghehaa
open Go.RowKit
theorem vec_lt {f : Nat → List Value} {len k : Nat} {t : TypeId} {e : Spot} {own : List Nat} {w : World} (h : VecAt f len t k e own w) : ∀ b ∈ own, b < w.heap.size := by
  obtain ⟨_, _, _, _, h5⟩ := h
  intro b hb
  cases ha : e.ad with
  | none => rw [ha] at h5; rw [h5.1] at hb; cases hb
  | some g =>
    rw [ha] at h5
    obtain ⟨_, g2, cs, g3, _⟩ := h5
    rw [g2, List.mem_singleton] at hb
    subst hb
    exact heap_lt g3
def putF (f : Pl → Int) (p : Pl) (v : Int) : Pl → Int := fun q => if q = p then v else f q
theorem URel.get {a : UA} {f : Pl → Int} (h : URel a.A0 a.A1 a.A2 a.W a.len f) {x : Int} (hx : (∃ k, a.hit k ∧ x = a.W k) ∨ a.miss ∧ x = 0) : x = f a.p := by
  rcases hx with ⟨k, ⟨h1, h2⟩, rfl⟩ | ⟨h1, rfl⟩
  · rw [← h2]; exact (h.val k h1).symm
  · exact (h.off _ h1).symm
theorem URel.put {a : UA} {f : Pl → Int} (h : URel a.A0 a.A1 a.A2 a.W a.len f) {k : Nat} (hk : a.hit k) : URel a.A0 a.A1 a.A2 (updI a.W k a.v) a.len (putF f a.p a.v) := by
  obtain ⟨h1, h2⟩ := hk
  refine ⟨h.wf, fun j hj => ?_, fun q hq => ?_, h.one⟩
  · by_cases e : j = k
    · subst e
      rw [updI_same]
      unfold putF
      exact if_pos h2
    · rw [updI_other e, ← h.val j hj]
      unfold putF
      exact if_neg fun he => e (h.one j k hj h1 (he.trans h2.symm))
  · unfold putF
    rw [if_neg fun he => hq k h1 (h2.trans he.symm)]
    exact h.off q hq
theorem URel.push {a : UA} {f : Pl → Int} (h : URel a.A0 a.A1 a.A2 a.W a.len f) (hm : a.miss) (hp : PlWf a.p) : URel (joinI a.A0 a.len fun _ => a.p0) (joinI a.A1 a.len fun _ => a.p1) (joinI a.A2 a.len fun _ => a.p2) (joinI a.W a.len fun _ => a.v) (a.len + 1) (putF f a.p a.v) := by
  have old : ∀ j, j < a.len → (joinI a.A0 a.len (fun _ => a.p0) j, joinI a.A1 a.len (fun _ => a.p1) j, joinI a.A2 a.len (fun _ => a.p2) j) = a.key j := fun j hj => by rw [joinI_old hj, joinI_old hj, joinI_old hj]; rfl
  have new : (joinI a.A0 a.len (fun _ => a.p0) a.len, joinI a.A1 a.len (fun _ => a.p1) a.len, joinI a.A2 a.len (fun _ => a.p2) a.len) = a.p := by rw [joinI_new (Nat.le_refl _), joinI_new (Nat.le_refl _), joinI_new (Nat.le_refl _)]; rfl
  have cases_ : ∀ {j}, j < a.len + 1 → j < a.len ∨ j = a.len := fun h => by omega
  refine ⟨fun j hj => ?_, fun j hj => ?_, fun q hq => ?_, fun i j hi hj e => ?_⟩
  · rcases cases_ hj with hj | rfl
    · rw [old j hj]; exact h.wf j hj
    · rw [new]; exact hp
  · rcases cases_ hj with hj | rfl
    · rw [old j hj, joinI_old hj, ← h.val j hj]
      unfold putF
      exact if_neg (hm j hj)
    · rw [new, joinI_new (Nat.le_refl _)]
      unfold putF
      exact if_pos rfl
  · unfold putF
    rw [if_neg fun he => hq a.len (Nat.lt_succ_self _) (new.trans he.symm)]
    exact h.off q fun j hj => by rw [← show _ = (a.A0 j, a.A1 j, a.A2 j) from old j hj]; exact hq j (by omega)
  · rcases cases_ hi with hi | rfl <;> rcases cases_ hj with hj | rfl
    · rw [old i hi, old j hj] at e; exact h.one i j hi hj e
    · rw [old i hi, new] at e; exact absurd e (hm i hi)
    · rw [old j hj, new] at e; exact absurd e.symm (hm j hj)
    · rfl
theorem cells1 : Try.prog.cellsOf tRC = 1 := by kernel_rfl
def cellsN (e sp : Spot) : Names := fun n => match n with
  | 0 => some e
  | 1 => some sp
  | _ => none
def cellsO (b : Nat) (own1 : List Nat) : Nat → List Nat := fun n => match n with
  | 0 => [b]
  | 1 => own1
  | _ => []
theorem cellsHp_get {A0 A1 A2 W : Nat → Int} {len n : Nat} {c : Chunk Rep} (h : hget n (cellsHp A0 A1 A2 W len) = some c) : (n = 0 ∧ c = .row [.tsl 1 len] tRC) ∨ (n = 1 ∧ c = .rep (.vec (oneCols A0 A1 A2 W) len tOne)) := by
  unfold cellsHp at h
  rw [hget_cons] at h
  split at h
  · next e => injection h with h; exact .inl ⟨e, h.symm⟩
  · rw [hget_cons] at h
    split at h
    · next e => injection h with h; exact .inr ⟨e, h.symm⟩
    · cases h
theorem cells_stand {A0 A1 A2 W : Nat → Int} {len : Nat} {e sp : Spot} {own1 : List Nat} {w : World} (h1 : e.b ∉ own1) (h2 : ∃ cs : Array Value, w.heap[e.b]? = some (.cells cs tRC (0, 0)) ∧ cs[e.off]? = some (.slice sp.ad len sp.cap) ∧ 1 ≤ e.cap ∧ e.off + e.cap ≤ cs.size)
    (h3 : VecAt (colsF (oneCols A0 A1 A2 W)) len tOne 4 sp own1 w) (en : Env) : Stand repAt Try.prog 0 ⟨en, cellsHp A0 A1 A2 W len, 2⟩ (cellsN e sp) (cellsO e.b own1) w := by
  obtain ⟨cs, g1, g2, g3, g4⟩ := h2
  have hlt := heap_lt g1
  refine ⟨⟨fun n c _ hc => ?_, fun n m c d _ _ hne hc hd b hb hb' => ?_, fun n c _ hc b hb => ?_⟩, fun n hn => ?_, fun n hn => ?_, Nat.zero_le _⟩
  · rcases cellsHp_get hc with ⟨rfl, rfl⟩ | ⟨rfl, rfl⟩
    · refine ⟨e, rfl, rfl, cs, [.slice sp.ad len sp.cap], g1, rfl, fun i hi => ?_, by rw [cells1, Nat.mul_one]; exact g3, by rw [cells1, Nat.mul_one]; exact g4⟩
      obtain rfl : i = 0 := by simpa using hi
      exact g2
    · exact ⟨sp, rfl, h3⟩
  · rcases cellsHp_get hc with ⟨rfl, rfl⟩ | ⟨rfl, rfl⟩ <;> rcases cellsHp_get hd with ⟨rfl, rfl⟩ | ⟨rfl, rfl⟩
    · exact hne rfl
    · simp only [cellsO, List.mem_singleton] at hb hb'; subst hb; exact h1 hb'
    · simp only [cellsO, List.mem_singleton] at hb hb'; subst hb'; exact h1 hb
    · exact hne rfl
  · rcases cellsHp_get hc with ⟨rfl, rfl⟩ | ⟨rfl, rfl⟩
    · simp only [cellsO, List.mem_singleton] at hb; subst hb; exact ⟨Nat.zero_le _, hlt⟩
    · exact ⟨Nat.zero_le _, vec_lt h3 b hb⟩
  · match n, hn with
    | n + 2, _ => rfl
  · match n, hn with
    | n + 2, _ => rfl
theorem cells_back {A0 A1 A2 W : Nat → Int} {len n : Nat} {f : Pl → Int} {e : Spot} {s' : Sym Rep} {ρ' : Names} {own' : Nat → List Nat} {w' : World} (hs : Stand repAt Try.prog 0 s' ρ' own' w') (hhp : s'.hp = cellsHp A0 A1 A2 W len) (he : ρ' 0 = some e) (hf : URel A0 A1 A2 W len f) (hn : len ≤ n) :
    UAt f n e (e.b :: own' 1) w' := by
  obtain ⟨e0, h0, o0, cs, vs, g1, g2, g3, g4, g5⟩ := hs.li.at_ 0 (.row [.tsl 1 len] tRC) trivial (by rw [hhp]; rfl)
  obtain ⟨sp, h1, g6⟩ := hs.li.at_ 1 (.rep (.vec (oneCols A0 A1 A2 W) len tOne)) trivial (by rw [hhp]; rfl)
  rw [he] at h0
  injection h0 with h0
  subst h0
  simp only [denL, den, h1, Option.map_some, Option.some.injEq] at g2
  subst g2
  rw [cells1, Nat.mul_one] at g4 g5
  refine ⟨A0, A1, A2, W, len, sp, own' 1, rfl, fun hx => ?_, ⟨cs, g1, g3 0 (by simp), g4, g5⟩, g6, hf, hn⟩
  exact hs.li.dis 0 1 _ _ trivial trivial (by decide) (by rw [hhp]; rfl) (by rw [hhp]; rfl) e.b (by rw [o0]; simp) hx
/-- What a call on a Cells leaves. -/
def UCame (f : Pl → Int) (n : Nat) (e : Spot) (own : List Nat) (w w' : World) : Prop := ∃ own', UAt f n e own' w' ∧ ModP (fun b => b ∈ own) w w' ∧ ∀ b ∈ own', b ∈ own ∨ (w.heap.size ≤ b ∧ b < w'.heap.size)
theorem cells_came {A0 A1 A2 W : Nat → Int} {len n : Nat} {f : Pl → Int} {e sp : Spot} {own1 : List Nat} {s' : Sym Rep} {ρ' : Names} {own' : Nat → List Nat} {w w' : World} {A0' A1' A2' W' : Nat → Int} {len' : Nat} (hs : Stand repAt Try.prog 0 s' ρ' own' w') (hhp : s'.hp = cellsHp A0 A1 A2 W len) (he : ρ' 0 = cellsN e sp 0) (hf : URel A0 A1 A2 W len f) (hn : len ≤ n)
    (hw : Way (cellsHp A0' A1' A2' W' len') (cellsO e.b own1) w s'.hp own' w') : UCame f n e (e.b :: own1) w w' := by
  have hown : ∀ m d, hget m (cellsHp A0' A1' A2' W' len') = some d → ∀ b ∈ cellsO e.b own1 m, b ∈ e.b :: own1 := fun m d hd b hb => by
    rcases cellsHp_get hd with ⟨rfl, _⟩ | ⟨rfl, _⟩
    · simp only [cellsO, List.mem_singleton] at hb; simp [hb]
    · exact List.mem_cons_of_mem _ hb
  have hlo := hs.li.low 1 _ trivial (by rw [hhp]; rfl)
  refine ⟨_, cells_back hs hhp he hf hn, hw.mod.mono fun b _ ⟨m, d, hd, hb⟩ => hown m d hd b hb, fun b hb => ?_⟩
  rcases List.mem_cons.1 hb with rfl | hb
  · exact .inl (by simp)
  · rcases hw.pool 1 (.rep (.vec (oneCols A0 A1 A2 W) len tOne)) (by rw [hhp]; rfl) b hb with h | ⟨m, d, hd, hm⟩
    · exact .inr ⟨h, (hlo b hb).2⟩
    · exact .inl (hown m d hd b hm)
set_option maxRecDepth 100000 in
set_option maxHeartbeats 4000000 in
theorem ucells_get {f : Pl → Int} {n : Nat} {e : Spot} {own : List Nat} {w : World} (h : UAt f n e own w) (hn : n ≤ 1000000) (p : Pl) :
    Calls Try.prog 80 #[.pointer (some ⟨e.b, e.off, none⟩), kagg p] w fun x w' => x = .returned (.int .u64 (f p)) ∧ UCame f n e own w w' := by
  obtain ⟨A0, A1, A2, W, len, sp, own1, rfl, h1, h2, h3, h4, h5⟩ := h
  have hst := cells_stand h1 h2 h3 (argsE [.ptr 0 0, .agg [iv p.1, iv p.2.1, iv p.2.2]])
  refine (Tri.calls (pin := 1) Try.func80 (c := bodyOf Try.prog ugF) (by kernel_rfl) (args := [.ptr 0 0, .agg [iv p.1, iv p.2.1, iv p.2.2]]) (Nat.le_of_ble_eq_true (by kernel_rfl)) (ug_start ⟨A0, A1, A2, W, len, p.1, p.2.1, p.2.2, 0⟩ (Nat.le_trans h5 hn)) hst (vals := [.pointer (some ⟨e.b, e.off, none⟩), kagg p]) rfl).mono ?_
  rintro x w' ⟨y, l, s', ρ', own', rfl, hy, ⟨z, rfl, hhp, hz⟩, hs, hw, hpp⟩
  simp only [oneOf, den, Option.some.injEq] at hy
  subst hy
  have hx : z = f p := URel.get (a := ⟨A0, A1, A2, W, len, p.1, p.2.1, p.2.2, 0⟩) h4 hz
  rw [hx]
  exact ⟨rfl, cells_came hs hhp (hpp 0 (by decide)) h4 h5 hw⟩
set_option maxRecDepth 100000 in
set_option maxHeartbeats 4000000 in
theorem ucells_set {f : Pl → Int} {n : Nat} {e : Spot} {own : List Nat} {w : World} (h : UAt f n e own w) (hn : n ≤ 1000000) {p : Pl} (hp : PlWf p) (v : Int) :
    Calls Try.prog 78 #[.pointer (some ⟨e.b, e.off, none⟩), kagg p, .int .u64 v] w fun x w' => x = .returned (.tuple #[]) ∧ UCame (putF f p v) (n + 1) e own w w' := by
  obtain ⟨A0, A1, A2, W, len, sp, own1, rfl, h1, h2, h3, h4, h5⟩ := h
  have hst := cells_stand h1 h2 h3 (argsE [.ptr 0 0, .agg [iv p.1, iv p.2.1, iv p.2.2], uv v])
  refine (Tri.calls (pin := 1) Try.func78 (c := bodyOf Try.prog usF) (by kernel_rfl) (args := [.ptr 0 0, .agg [iv p.1, iv p.2.1, iv p.2.2], uv v]) (Nat.le_of_ble_eq_true (by kernel_rfl)) (us_start ⟨A0, A1, A2, W, len, p.1, p.2.1, p.2.2, v⟩ (Nat.le_trans h5 hn)) hst (vals := [.pointer (some ⟨e.b, e.off, none⟩), kagg p, .int .u64 v]) rfl).mono ?_
  rintro x w' ⟨y, l, s', ρ', own', rfl, hy, ⟨rfl, hz⟩, hs, hw, hpp⟩
  simp only [oneOf, den, denL, Option.map_some, Option.some.injEq] at hy
  subst hy
  refine ⟨rfl, ?_⟩
  rcases hz with ⟨k, hk, hhp⟩ | ⟨hm, hhp⟩
  · exact cells_came hs hhp (hpp 0 (by decide)) (URel.put (a := ⟨A0, A1, A2, W, len, p.1, p.2.1, p.2.2, v⟩) h4 hk) (Nat.le_succ_of_le h5) hw
  · exact cells_came hs hhp (hpp 0 (by decide)) (URel.push (a := ⟨A0, A1, A2, W, len, p.1, p.2.1, p.2.2, v⟩) h4 hm hp) (Nat.succ_le_succ h5) hw
end Go.Proofs.Ytpaiejeipghehaa
end
section
/- The document's Get and Set as known calls. -/
namespace Go.Proofs.Ytpaiejeipghehaa
open Go.RowKit
/-- A Cells, told as words. -/
def asU : Chunk Rep → Option (List (Pl × Int) × (Pl → Int) × Nat)
  | .rep (.ucells l g n) => some (l, g, n)
  | .row [.v (.slice none 0 0)] t => match Nat.beq t tRC with
    | true => some ([], zeroG, 0)
    | false => none
  | _ => none
theorem asU_at {c : Chunk Rep} {l : List (Pl × Int)} {g : Pl → Int} {n B : Nat} {ρ : Names} {e : Spot} {own : List Nat} {w : World} (h : asU c = some (l, g, n)) (hc : CAt repAt Try.prog ρ B e own c w) : UAt (getL l g) n e own w := by
  unfold asU at h
  split at h
  · simp only [Option.some.injEq, Prod.mk.injEq] at h
    obtain ⟨rfl, rfl, rfl⟩ := h
    exact hc
  · split at h
    · next hb =>
      obtain rfl := Nat.eq_of_beq_eq_true hb
      simp only [Option.some.injEq, Prod.mk.injEq] at h
      obtain ⟨rfl, rfl, rfl⟩ := h
      exact nilU_at cells1 hc
    · cases h
  · cases h
def getUX : List SV → M Rep SV
  | [.ptr n 0, P] => (getC n).bind fun c => (M.opt 360 (asU c)).bind fun | (l, g, k) => (M.opt 361 (plOf P)).bind fun p => (need 362 (Nat.ble k 1000000)).bind fun _ => (setC n (.rep (.ucells l g k))).bind fun _ => .ret (.v (.int .u64 (getL l g p)))
  | _ => .fail 363
def setUX : List SV → M Rep SV
  | [.ptr n 0, P, V] => (getC n).bind fun c => (M.opt 364 (asU c)).bind fun | (l, g, k) => (M.opt 365 (plOf P)).bind fun p => (M.opt 366 (wordOf V)).bind fun v => (need 367 (plWfB p && Nat.ble k 1000000)).bind fun _ => (setC n (.rep (.ucells ((p, v) :: l) g (k + 1)))).bind fun _ => .ret (.tup [])
  | _ => .fail 368
theorem getU_s {args : List SV} {st st' : St Rep} {s : SV} (h : getUX args st = .ok s st') : CallS repAt Try.prog 80 args st st' s := by
  unfold getUX at h
  split at h
  · next n P =>
    obtain ⟨c, st1, h3, h4⟩ := bind_ok.1 h
    obtain ⟨hc, rfl⟩ := getC_ok.1 h3
    obtain ⟨⟨l, g, k⟩, _, h5, h6⟩ := bind_ok.1 h4
    obtain ⟨hu, rfl⟩ := opt_ok.1 h5
    obtain ⟨p, _, h7, h8⟩ := bind_ok.1 h6
    obtain ⟨hp, rfl⟩ := opt_ok.1 h7
    obtain ⟨_, st2, h9, h10⟩ := bind_ok.1 h8
    obtain ⟨q2, hq⟩ := need_ok h9
    obtain ⟨_, st3, h11, h12⟩ := bind_ok.1 h10
    obtain ⟨_, rfl⟩ := setC_ok.1 h11
    obtain ⟨rfl, rfl⟩ := ret_ok.1 h12
    have q := Quiet.get.trans q2
    have hc2 : hget n st2.hp = some c := by rw [q.hp]; exact hc
    refine ⟨q.fn.trans (Fn.set st2 n (.rep (.ucells l g k)) _ hc2), fun B F ρ own w vals si hv => ?_⟩
    have s1 := si.of_quiet q
    obtain ⟨e, he, hat⟩ := s1.li.at_ n _ (s1.log n (mem_ins.2 (.inl rfl))) hc2
    obtain ⟨v1, vs1, e1, e2, rfl⟩ := denL_cons.1 hv
    obtain ⟨v2, vs2, e3, e4, rfl⟩ := denL_cons.1 e2
    simp only [denL, Option.some.injEq] at e4
    subst e4
    simp only [den, he, Option.map_some, Option.some.injEq, Nat.add_zero] at e1
    subst e1
    obtain rfl := plOf_den hp e3
    refine (ucells_get (asU_at hu hat) (Nat.le_of_ble_eq_true (hq si.ask)) p).mono ?_
    rintro x w' ⟨rfl, own', ha, hm, ho⟩
    have ht := Tr.set s1 hc2 he own' hm (show Rep.At B (.ucells l g k) e own' w' from ha) ho
    exact ⟨_, _, _, rfl, rfl, Tr.of_quiet q ht⟩
  · exact (fail_ok.1 h).elim
theorem setU_s {args : List SV} {st st' : St Rep} {s : SV} (h : setUX args st = .ok s st') : CallS repAt Try.prog 78 args st st' s := by
  unfold setUX at h
  split at h
  · next n P V =>
    obtain ⟨c, st1, h3, h4⟩ := bind_ok.1 h
    obtain ⟨hc, rfl⟩ := getC_ok.1 h3
    obtain ⟨⟨l, g, k⟩, _, h5, h6⟩ := bind_ok.1 h4
    obtain ⟨hu, rfl⟩ := opt_ok.1 h5
    obtain ⟨p, _, h7, h8⟩ := bind_ok.1 h6
    obtain ⟨hp, rfl⟩ := opt_ok.1 h7
    obtain ⟨v, _, h7b, h8b⟩ := bind_ok.1 h8
    obtain ⟨hv1, rfl⟩ := opt_ok.1 h7b
    obtain ⟨_, st2, h9, h10⟩ := bind_ok.1 h8b
    obtain ⟨q2, hq⟩ := need_ok h9
    obtain ⟨_, st3, h11, h12⟩ := bind_ok.1 h10
    obtain ⟨_, rfl⟩ := setC_ok.1 h11
    obtain ⟨rfl, rfl⟩ := ret_ok.1 h12
    have q := Quiet.get.trans q2
    have hc2 : hget n st2.hp = some c := by rw [q.hp]; exact hc
    refine ⟨q.fn.trans (Fn.set st2 n (.rep (.ucells ((p, v) :: l) g (k + 1))) _ hc2), fun B F ρ own w vals si hv => ?_⟩
    have s1 := si.of_quiet q
    have hn := hq si.ask
    simp only [Bool.and_eq_true] at hn
    obtain ⟨e, he, hat⟩ := s1.li.at_ n _ (s1.log n (mem_ins.2 (.inl rfl))) hc2
    obtain ⟨v1, vs1, e1, e2, rfl⟩ := denL_cons.1 hv
    obtain ⟨v2, vs2, e3, e4, rfl⟩ := denL_cons.1 e2
    obtain ⟨v3, vs3, e5, e6, rfl⟩ := denL_cons.1 e4
    simp only [denL, Option.some.injEq] at e6
    subst e6
    simp only [den, he, Option.map_some, Option.some.injEq, Nat.add_zero] at e1
    subst e1
    obtain rfl := plOf_den hp e3
    have e7 : v3 = .int .u64 v := by
      unfold wordOf at hv1
      split at hv1 <;> cases hv1
      simp only [den, Option.some.injEq] at e5
      exact e5.symm
    subst e7
    refine (ucells_set (asU_at hu hat) (Nat.le_of_ble_eq_true hn.2) (plWfB_iff.1 hn.1) v).mono ?_
    rintro x w' ⟨rfl, own', ha, hm, ho⟩
    have ht := Tr.set s1 hc2 he own' hm (show Rep.At B (.ucells ((p, v) :: l) g (k + 1)) e own' w' from ha) ho
    exact ⟨_, _, _, rfl, rfl, Tr.of_quiet q ht⟩
  · exact (fail_ok.1 h).elim
noncomputable def primU (f : FuncId) (args : List SV) : Option (M Rep SV) := match Nat.beq f 80 with
  | true => some (getUX args)
  | false => match Nat.beq f 78 with
    | true => some (setUX args)
    | false => none
theorem primU_ok : ∀ f args m, primU f args = some m → ∀ st s st', m st = .ok s st' → CallS repAt Try.prog f args st st' s := by
  intro f args m hm st s st' h
  unfold primU at hm
  split at hm
  · next hb =>
    obtain rfl := Nat.eq_of_beq_eq_true hb
    cases hm
    exact getU_s h
  · split at hm
    · next hb =>
      obtain rfl := Nat.eq_of_beq_eq_true hb
      cases hm
      exact setU_s h
    · cases hm
/-- With more calls known. -/
def Lib.more (l : Lib Rep) (p : FuncId → List SV → Option (M Rep SV)) : Lib Rep := ⟨fun f args => match p f args with
  | some m => some m
  | none => l.prim f args, l.ext, l.tidy⟩
theorem Lib.more_ok {l : Lib Rep} {p : FuncId → List SV → Option (M Rep SV)} (hl : LibOK repAt Try.prog l) (hp : ∀ f args m, p f args = some m → ∀ st s st', m st = .ok s st' → CallS repAt Try.prog f args st st' s) : LibOK repAt Try.prog (l.more p) := by
  refine ⟨fun f args m hm => ?_, hl.ext, hl.tidy⟩
  simp only [Lib.more] at hm
  split at hm
  · next m' h =>
    injection hm with hm
    subst hm
    exact hp f args m' h
  · exact hl.prim f args m hm
end Go.Proofs.Ytpaiejeipghehaa
end
section
/- The places of a map, rising: the one list that there is. No condition. -/
namespace Go.Proofs.Ytpaiejeipghehaa
open Go.RowKit
abbrev kvs (p : Pl) : List Value := [.int .i64 p.1, .int .i64 p.2.1, .int .i64 p.2.2]
def ltPl (x y : Pl) : Prop := x.1 < y.1 ∨ x.1 = y.1 ∧ (x.2.1 < y.2.1 ∨ x.2.1 = y.2.1 ∧ x.2.2 < y.2.2)
instance (x y : Pl) : Decidable (ltPl x y) := by unfold ltPl; infer_instance
theorem ltPl_trans {x y z : Pl} (h : ltPl x y) (k : ltPl y z) : ltPl x z := by unfold ltPl at *; omega
theorem ltPl_irrefl (x : Pl) : ¬ ltPl x x := by unfold ltPl; omega
theorem ltPl_total {x y : Pl} (h : ¬ ltPl x y) (k : ¬ ltPl y x) : x = y := by
  obtain ⟨a, b, c⟩ := x
  obtain ⟨d, e, f⟩ := y
  unfold ltPl at *
  simp only [Prod.mk.injEq]
  simp only at h k
  omega
/-- L is the places of f, rising. -/
def IsPlaces (f : Pl → Int) (L : List Pl) : Prop := L.Pairwise ltPl ∧ ∀ p, p ∈ L ↔ PlWf p ∧ f p ≠ 0
theorem rising_unique : ∀ {l m : List Pl}, l.Pairwise ltPl → m.Pairwise ltPl → (∀ p, p ∈ l ↔ p ∈ m) → l = m
  | [], [], _, _, _ => rfl
  | [], b :: m, _, _, h => by have := (h b).2 (by simp); cases this
  | a :: l, [], _, _, h => by have := (h a).1 (by simp); cases this
  | a :: l, b :: m, h1, h2, h => by
    obtain ⟨ha, hl⟩ := List.pairwise_cons.1 h1
    obtain ⟨hb, hm⟩ := List.pairwise_cons.1 h2
    have e : a = b := by
      rcases List.mem_cons.1 ((h a).1 (by simp)) with e | e
      · exact e
      · rcases List.mem_cons.1 ((h b).2 (by simp)) with k | k
        · exact k.symm
        · exact absurd (ltPl_trans (ha b k) (hb a e)) (ltPl_irrefl a)
    subst e
    rw [rising_unique hl hm fun p => ?_]
    constructor
    · intro hp
      rcases List.mem_cons.1 ((h p).1 (by simp [hp])) with e | e
      · subst e; exact absurd (ha p hp) (ltPl_irrefl p)
      · exact e
    · intro hp
      rcases List.mem_cons.1 ((h p).2 (by simp [hp])) with e | e
      · subst e; exact absurd (hb p hp) (ltPl_irrefl p)
      · exact e
open Classical in
noncomputable def placesOf (f : Pl → Int) : List Pl := if h : ∃ L, IsPlaces f L then h.choose else []
theorem placesOf_eq {f : Pl → Int} {L : List Pl} (h : IsPlaces f L) : placesOf f = L := by
  unfold placesOf
  have hx : ∃ L, IsPlaces f L := ⟨L, h⟩
  rw [dif_pos hx]
  have k := hx.choose_spec
  exact rising_unique k.1 h.1 fun p => by rw [k.2, h.2]
theorem places_ex {f : Pl → Int} {ss : List Pl} (hn : ss.Nodup) (hm : ∀ p, p ∈ ss ↔ PlWf p ∧ f p ≠ 0) : IsPlaces f (placesOf f) ∧ (placesOf f).length = ss.length := by
  have hip : IsPlaces f (ss.mergeSort fun x y => !decide (ltPl y x)) := by
    constructor
    · have hp := List.pairwise_mergeSort (le := fun x y => !decide (ltPl y x)) (fun a b c h1 h2 => by
        simp only [Bool.not_eq_true', decide_eq_false_iff_not] at *
        unfold ltPl at *
        omega) (fun a b => by
        cases h1 : decide (ltPl b a) <;> cases h2 : decide (ltPl a b) <;> simp
        have := ltPl_trans (of_decide_eq_true h1) (of_decide_eq_true h2)
        exact ltPl_irrefl _ this) ss
      have hd : (ss.mergeSort fun x y => !decide (ltPl y x)).Pairwise (· ≠ ·) := (List.mergeSort_perm ss _).nodup_iff.2 hn
      refine (hp.and hd).imp fun {a b} h => ?_
      obtain ⟨h1, h2⟩ := h
      simp only [Bool.not_eq_true', decide_eq_false_iff_not] at h1
      by_cases h3 : ltPl a b
      · exact h3
      · exact absurd (ltPl_total h3 h1) h2
    · intro p
      rw [(List.mergeSort_perm ss _).mem_iff, hm]
  rw [placesOf_eq hip]
  exact ⟨hip, List.length_mergeSort _⟩
/-- A row of places as a slice's. -/
def plRow (L : List Pl) : Nat → List Value := fun i => kvs (L.getD i (0, 0, 0))
/-- Rows of places, column by column. -/
def colsPl (L : List Pl) : List Col := [.int .i64 fun i => (L.getD i (0, 0, 0)).1, .int .i64 fun i => (L.getD i (0, 0, 0)).2.1, .int .i64 fun i => (L.getD i (0, 0, 0)).2.2]
theorem colsPl_row (L : List Pl) : colsF (colsPl L) = plRow L := rfl
theorem kvs_one (p : Pl) : ∀ u ∈ kvs p, u.oneCell' = true := by simp [Value.oneCell']
theorem kvs_flat (ss : List Pl) : ∀ (i j : Nat), i < ss.length → j < 3 → (ss.flatMap kvs)[i * 3 + j]? = (kvs (ss.getD i (0, 0, 0)))[j]? := by
  induction ss with
  | nil => intro i j hi; cases hi
  | cons a r ih =>
    intro i j hi hj
    rw [List.flatMap_cons]
    cases i with
    | zero => rw [List.getElem?_append_left (by simp; omega)]; simp
    | succ i =>
      rw [List.getElem?_append_right (by simp; omega)]
      have := ih i j (by simpa using hi) hj
      simp only [List.length_cons, List.length_nil] at *
      rw [show (i + 1) * 3 + j - (0 + 1 + 1 + 1) = i * 3 + j by omega, this]
      simp
theorem kvs_get (p : Pl) : ∀ (j : Nat), j < 3 → some (kvs p)[j]! = (kvs p)[j]?
  | 0, _ => rfl
  | 1, _ => rfl
  | 2, _ => rfl
  | n + 3, h => by omega
theorem row_ok (p : Pl) : RowOK 3 (kvs p) := ⟨rfl, kvs_one p⟩
theorem vec_of_owns {w : World} {base n : Nat} {v : Value} {ss : List Pl} {t : TypeId} (h : w.ownsRow base t 3 v n (ss.flatMap kvs)) (hn : n = ss.length) : ∃ (sp : Spot) (own : List Nat), v = .slice sp.ad n sp.cap ∧ VecAt (plRow ss) n t 3 sp own w ∧ ∀ b ∈ own, base ≤ b := by
  subst hn
  obtain ⟨h0, h⟩ := h
  rcases h with ⟨rfl, hz⟩ | ⟨g, cap, cur, rfl, hb, hg, h1, h2, h3, h4⟩
  · refine ⟨⟨0, 0, 0, 3, ss.length, none⟩, [], by rw [hz], ⟨rfl, rfl, by simp [hz], fun i hi => row_ok _, rfl, rfl⟩, by simp⟩
  · refine ⟨⟨g, cap, 0, 3, ss.length, some ⟨g, 0, none⟩⟩, [g], rfl, ⟨rfl, rfl, h1, fun i hi => row_ok _, rfl, rfl, cur, hg, by simp [h3], fun i hi j hj => ?_⟩, by simpa using hb⟩
    have hlt : i * 3 + j < ss.length * 3 := by omega
    have e := kvs_flat ss i j hi hj
    rw [← h4, List.getElem?_take_of_lt hlt] at e
    simp only [Nat.zero_add]
    rw [← Array.getElem?_toList, e]
    rfl
end Go.Proofs.Ytpaiejeipghehaa
end
section
/- The document's Places: the states at its loops' heads. No condition. -/
namespace Go.Proofs.Ytpaiejeipghehaa
open Go.RowKit
noncomputable abbrev upF : FuncId := 104
noncomputable abbrev upZ : Nat := slotsOf Try.prog upF
noncomputable def upL : Code × List Fr := loopOf Try.prog upF 0
noncomputable def upM : Code × List Fr := loopIn upL 0
def kLess : List SV → Option SV
  | [a, b] => match plOf a, plOf b with
    | some p, some q => some (.v (.bool (decide (ltPl p q))))
    | _, _ => none
  | _ => none
structure UB where
  A0 : Nat → Int
  A1 : Nat → Int
  A2 : Nat → Int
  W : Nat → Int
  len : Nat
def UB.key (a : UB) (k : Nat) : Pl := (a.A0 k, a.A1 k, a.A2 k)
/-- The rows out, told as a list. -/
def RowsOf (B0 B1 B2 : Nat → Int) (L : List Pl) : Prop := ∀ j, j < L.length → (B0 j, B1 j, B2 j) = L.getD j (0, 0, 0)
def upS (a : UB) (B0 B1 B2 : Nat → Int) (m : Nat) (i : Int) : Sym Rep :=
  ⟨[(3, .tsl 1 m), (0, .ptr 0 0), (4, iv i)], [(0, .row [.tsl 2 a.len] tRC), (1, .rep (.vec [.int .i64 B0, .int .i64 B1, .int .i64 B2] m 113)), (2, .rep (.vec (oneCols a.A0 a.A1 a.A2 a.W) a.len tOne))], 3⟩
def upS2 (a : UB) (B0 B1 B2 : Nat → Int) (m : Nat) (i k : Int) : Sym Rep :=
  ⟨[(3, .tsl 1 m), (0, .ptr 0 0), (4, iv i), (5, iv k)], [(0, .row [.tsl 2 a.len] tRC), (1, .rep (.vec [.int .i64 B0, .int .i64 B1, .int .i64 B2] m 113)), (2, .rep (.vec (oneCols a.A0 a.A1 a.A2 a.W) a.len tOne))], 3⟩
def upCfg0 : Stop → List Gen × List Nat := fun _ => ([.row 1 0 [.int .i64, .int .i64, .int .i64]], [3, 0, 4])
def upCfg : Stop → List Gen × List Nat
  | .fin .ret _ => ([], [2])
  | _ => ([], [3, 0, 4])
def upCfg2 : Stop → List Gen × List Nat
  | .fin .ret _ => ([], [2])
  | _ => ([], [3, 0, 4, 5])
/-- What has come of the first i. -/
def Came (a : UB) (i : Nat) (L : List Pl) : Prop := ∀ p, p ∈ L ↔ ∃ j, j < i ∧ a.key j = p ∧ a.W j ≠ 0
def UB.ok (a : UB) : Prop := a.len ≤ 1000000 ∧ ∀ i j, i < a.len → j < a.len → a.key i = a.key j → i = j
def UPP (a : UB) (B0 B1 B2 : Nat → Int) (m : Nat) (i : Int) : Prop := 0 ≤ i ∧ i ≤ (a.len : Int) ∧ (m : Int) ≤ i ∧ a.ok ∧ ∃ L, L.length = m ∧ RowsOf B0 B1 B2 L ∧ L.Pairwise ltPl ∧ Came a i.toNat L
def UPQ (a : UB) (B0 B1 B2 : Nat → Int) (m : Nat) (i k : Int) : Prop := 0 ≤ i ∧ i < (a.len : Int) ∧ (m : Int) ≤ i + 1 ∧ a.ok ∧ 0 ≤ k ∧ k < (m : Int) ∧ ∃ L1 x L2, L1.length = k.toNat ∧ (L1 ++ x :: L2).length = m ∧ RowsOf B0 B1 B2 (L1 ++ x :: L2) ∧ (L1 ++ L2).Pairwise ltPl ∧ (∀ y ∈ L2, ltPl x y) ∧ Came a i.toNat (L1 ++ L2) ∧ a.key i.toNat = x ∧ a.W i.toNat ≠ 0
theorem rows_join {B0 B1 B2 : Nat → Int} {L : List Pl} {m : Nat} (h : RowsOf B0 B1 B2 L) (hm : L.length = m) (x : Pl) : RowsOf (joinI B0 m fun _ => x.1) (joinI B1 m fun _ => x.2.1) (joinI B2 m fun _ => x.2.2) (L ++ [x]) := by
  subst hm
  intro j hj
  simp only [List.length_append, List.length_cons, List.length_nil] at hj
  by_cases e : j < L.length
  · rw [joinI_old e, joinI_old e, joinI_old e, h j e]
    simp [List.getD, List.getElem?_append_left e]
  · obtain rfl : j = L.length := by omega
    rw [joinI_new (Nat.le_refl _), joinI_new (Nat.le_refl _), joinI_new (Nat.le_refl _)]
    simp [List.getD]
theorem rows_swap {B0 B1 B2 : Nat → Int} {L1 L2 : List Pl} {x y : Pl} {k : Nat} (h : RowsOf B0 B1 B2 (L1 ++ y :: x :: L2)) (hk : L1.length = k) :
    RowsOf (updI (updI B0 (k + 1) (B0 k)) k (B0 (k + 1))) (updI (updI B1 (k + 1) (B1 k)) k (B1 (k + 1))) (updI (updI B2 (k + 1) (B2 k)) k (B2 (k + 1))) (L1 ++ x :: y :: L2) := by
  subst hk
  have hy := h L1.length (by simp)
  have hx := h (L1.length + 1) (by simp)
  simp only [Prod.mk.injEq, List.getD] at hy hx
  simp at hy hx
  intro j hj
  have hj2 : j < (L1 ++ y :: x :: L2).length := by simp only [List.length_append, List.length_cons] at hj ⊢; omega
  by_cases e : j = L1.length
  · subst e
    simp only [updI_same]
    simp [List.getD, hx]
  · rw [updI_other e, updI_other e, updI_other e]
    by_cases e2 : j = L1.length + 1
    · subst e2
      simp only [updI_same]
      simp [List.getD, hy]
    · rw [updI_other e2, updI_other e2, updI_other e2, h j hj2]
      simp only [List.getD]
      congr 1
      by_cases e3 : j < L1.length
      · rw [List.getElem?_append_left e3, List.getElem?_append_left e3]
      · rw [List.getElem?_append_right (by omega), List.getElem?_append_right (by omega)]
        obtain ⟨d, hd⟩ : ∃ d, j - L1.length = d + 2 := ⟨j - L1.length - 2, by omega⟩
        rw [hd]
        rfl
theorem came_skip {a : UB} {i : Nat} {L : List Pl} (h : Came a i L) (h0 : a.W i = 0) : Came a (i + 1) L := fun p => by
  rw [h p]
  constructor
  · rintro ⟨j, h1, h2⟩; exact ⟨j, by omega, h2⟩
  · rintro ⟨j, h1, h2, h3⟩
    refine ⟨j, ?_, h2, h3⟩
    rcases Nat.lt_or_ge j i with h | h
    · exact h
    · obtain rfl : j = i := by omega
      exact absurd h0 h3
theorem came_step {a : UB} {i : Nat} {L1 L2 : List Pl} {x : Pl} (h : Came a i (L1 ++ L2)) (hx : a.key i = x) (h0 : a.W i ≠ 0) : Came a (i + 1) (L1 ++ x :: L2) := fun p => by
  have hm : p ∈ L1 ++ x :: L2 ↔ p = x ∨ p ∈ L1 ++ L2 := by simp only [List.mem_append, List.mem_cons]; constructor <;> (intro h; rcases h with h | h | h <;> simp [h])
  rw [hm, h p]
  constructor
  · rintro (rfl | ⟨j, h1, h2⟩)
    · exact ⟨i, Nat.lt_succ_self _, hx, h0⟩
    · exact ⟨j, by omega, h2⟩
  · rintro ⟨j, h1, h2, h3⟩
    rcases Nat.lt_or_ge j i with h | h
    · exact .inr ⟨j, h, h2, h3⟩
    · obtain rfl : j = i := by omega
      exact .inl (h2.symm.trans hx)
end Go.Proofs.Ytpaiejeipghehaa
end
section
/- Calls whose answers are known. No condition. -/
namespace Go.Proofs.Ytpaiejeipghehaa
/-- A word and two ints in, a value out. -/
def kUII (g : Int → Int → Int → Value) : List SV → Option SV
  | [.v (.int .u64 a), .v (.int .i64 b), .v (.int .i64 c)] => some (.v (g a b c))
  | _ => none
/-- A link in, a value out. -/
def kLink (g : Bool → Int → Int → Value) : List SV → Option SV
  | [.agg [.v (.bool m), .v (.int .i64 b), .v (.int .i64 c)]] => some (.v (g m b c))
  | _ => none
theorem good_calls {f : FuncId} {args : List SV} {x : Value} (h : Good (fun o => run0 f args (St.none o)) (fun y => y = x)) {vals : List Value} (hv : denL noNames args = some vals) (w : World) : Calls Try.prog f vals.toArray w fun e w' => e = .returned x ∧ Mod [] w w' :=
  (good_ans run0_ok h w hv).mono fun e w' ⟨y, hy, he, hm⟩ => ⟨by rw [he, hy], hm⟩
end Go.Proofs.Ytpaiejeipghehaa
end
section
/- The document's Less, by its answer. No condition. -/
namespace Go.Proofs.Ytpaiejeipghehaa
set_option linter.unusedVariables false
set_option linter.unusedSimpArgs false
set_option maxRecDepth 100000
set_option maxHeartbeats 8000000

theorem less_good (p q : Pl)  : Good (fun o => run0 130 [.agg [iv p.1, iv p.2.1, iv p.2.2], .agg [iv q.1, iv q.2.1, iv q.2.2]] (St.none o)) (fun x => x = .bool (decide (ltPl p q))) := by
  rcases Bool.eq_false_or_eq_true (p.fst != q.fst) with h0 | h0
  · exact ⟨[some true], [((p.fst != q.fst), true)], Value.bool (decide (p.fst < q.fst)), by kernel_rfl, ⟨h0, trivial⟩, (by (congr 1; simp only [bne_iff_ne, beq_iff_eq, decide_eq_true_eq, decide_eq_false_iff_not, bne_eq_false_iff_eq, ne_eq] at *; first | (rw [Bool.eq_iff_iff, decide_eq_true_iff, decide_eq_true_iff]; unfold ltPl; omega) | (symm; rw [decide_eq_true_iff]; unfold ltPl; omega) | (symm; rw [decide_eq_false_iff_not]; unfold ltPl; omega)))⟩
  · rcases Bool.eq_false_or_eq_true (p.snd.fst != q.snd.fst) with h1 | h1
    · exact ⟨[some false] ++ [some true], [((p.snd.fst != q.snd.fst), true), ((p.fst != q.fst), false)], Value.bool (decide (p.snd.fst < q.snd.fst)), by kernel_rfl, ⟨h1, h0, trivial⟩, (by (congr 1; simp only [bne_iff_ne, beq_iff_eq, decide_eq_true_eq, decide_eq_false_iff_not, bne_eq_false_iff_eq, ne_eq] at *; first | (rw [Bool.eq_iff_iff, decide_eq_true_iff, decide_eq_true_iff]; unfold ltPl; omega) | (symm; rw [decide_eq_true_iff]; unfold ltPl; omega) | (symm; rw [decide_eq_false_iff_not]; unfold ltPl; omega)))⟩
    · exact ⟨[some false, some false], [((p.snd.fst != q.snd.fst), false), ((p.fst != q.fst), false)], Value.bool (decide (p.snd.snd < q.snd.snd)), by kernel_rfl, ⟨h1, h0, trivial⟩, (by (congr 1; simp only [bne_iff_ne, beq_iff_eq, decide_eq_true_eq, decide_eq_false_iff_not, bne_eq_false_iff_eq, ne_eq] at *; first | (rw [Bool.eq_iff_iff, decide_eq_true_iff, decide_eq_true_iff]; unfold ltPl; omega) | (symm; rw [decide_eq_true_iff]; unfold ltPl; omega) | (symm; rw [decide_eq_false_iff_not]; unfold ltPl; omega)))⟩
theorem less_tab : TabOK Try.prog (Tab.one 130 kLess) := TabOK.one fun args s hs ρ vals w hv => by
  unfold kLess at hs
  split at hs <;> try cases hs
  next a b =>
  split at hs <;> cases hs
  next p q hp hq =>
  obtain ⟨v1, vs1, e1, e2, rfl⟩ := denL_cons.1 hv
  obtain ⟨v2, vs2, e3, e4, rfl⟩ := denL_cons.1 e2
  simp only [denL, Option.some.injEq] at e4
  subst e4
  obtain rfl := plOf_den hp e1
  obtain rfl := plOf_den hq e3
  exact (good_calls (less_good p q) (vals := [kagg p, kagg q]) rfl w).mono fun e w' ⟨he, hm⟩ => ⟨_, he, rfl, hm⟩
end Go.Proofs.Ytpaiejeipghehaa
end
section
/- The document's Places: what its rounds do to the rows. No condition. -/
namespace Go.Proofs.Ytpaiejeipghehaa
open Go.RowKit
noncomputable def libP : Lib Rep := lib0.with (Tab.one 130 kLess)
theorem libP_ok : LibOK repAt Try.prog libP := Lib.with_ok lib0_ok less_tab
variable {a : UB} {B0 B1 B2 : Nat → Int} {m : Nat} {i k : Int}
theorem upp_skip (hP : UPP a B0 B1 B2 m i) (h0 : decide (i < (a.len : Int)) = true) (h : (a.W i.toNat == 0) = true) : UPP a B0 B1 B2 m (IntKind.i64.wrap (i + 1)) := by
  obtain ⟨i0, i1, hm, hok, L, hl, hr, hs, hc⟩ := hP
  have hlt := of_decide_eq_true h0
  have := hok.1
  rw [wrapI (by omega) (by omega)]
  refine ⟨by omega, by omega, by omega, hok, L, hl, hr, hs, ?_⟩
  rw [show (i + 1).toNat = i.toNat + 1 by omega]
  exact came_skip hc (by simpa using h)
theorem upp_push (hP : UPP a B0 B1 B2 m i) (h0 : decide (i < (a.len : Int)) = true) (h : (a.W i.toNat == 0) = false) :
    UPQ a (joinI B0 m fun _ => a.A0 i.toNat) (joinI B1 m fun _ => a.A1 i.toNat) (joinI B2 m fun _ => a.A2 i.toNat) (m + 1) i (IntKind.i64.wrap (((m + 1 : Nat) : Int) - 1)) := by
  obtain ⟨i0, i1, hm, hok, L, hl, hr, hs, hc⟩ := hP
  have hlt := of_decide_eq_true h0
  have := hok.1
  rw [wrapI (by omega) (by omega)]
  refine ⟨i0, hlt, by omega, hok, by omega, by omega, L, a.key i.toNat, [], by omega, by simp [hl], rows_join hr hl (a.key i.toNat), by simpa using hs, (fun y hy => by cases hy), by simpa using hc, rfl, by simpa using h⟩
theorem rows_at {L1 L2 : List Pl} {x : Pl} (hr : RowsOf B0 B1 B2 (L1 ++ x :: L2)) {n : Nat} (hn : L1.length = n) : (B0 n, B1 n, B2 n) = x := by
  subst hn
  rw [hr L1.length (by simp)]
  simp [List.getD]
theorem upq_step (hP : UPQ a B0 B1 B2 m i k) (h0 : decide (k > 0) = true) (h : decide (ltPl (B0 k.toNat, B1 k.toNat, B2 k.toNat) (B0 (IntKind.i64.wrap (k - 1)).toNat, B1 (IntKind.i64.wrap (k - 1)).toNat, B2 (IntKind.i64.wrap (k - 1)).toNat)) = true) :
    UPQ a (updI (updI B0 k.toNat (B0 (IntKind.i64.wrap (k - 1)).toNat)) (IntKind.i64.wrap (k - 1)).toNat (B0 k.toNat)) (updI (updI B1 k.toNat (B1 (IntKind.i64.wrap (k - 1)).toNat)) (IntKind.i64.wrap (k - 1)).toNat (B1 k.toNat)) (updI (updI B2 k.toNat (B2 (IntKind.i64.wrap (k - 1)).toNat)) (IntKind.i64.wrap (k - 1)).toNat (B2 k.toNat)) m i (IntKind.i64.wrap (k - 1)) := by
  obtain ⟨i0, i1, hm, hok, k0, k1, L1, x, L2, hl, hlen, hr, hs, hx, hc, hk, hw⟩ := hP
  have hk0 := of_decide_eq_true h0
  have hok1 := hok.1
  have hlt := of_decide_eq_true h
  rw [wrapI (x := k - 1) (by omega) (by omega)] at hlt ⊢
  have hne : L1 ≠ [] := fun e => by rw [e] at hl; simp at hl; omega
  obtain ⟨M, y, rfl⟩ : ∃ M y, L1 = M ++ [y] := ⟨L1.dropLast, L1.getLast hne, (List.dropLast_concat_getLast hne).symm⟩
  have hM : M.length = (k - 1).toNat := by simp at hl; omega
  have e1 : k.toNat = (k - 1).toNat + 1 := by omega
  rw [List.append_assoc] at hr hlen hs hc
  simp only [List.cons_append, List.nil_append] at hr hlen hs hc
  have hy := rows_at hr hM
  have hxx : (B0 k.toNat, B1 k.toNat, B2 k.toNat) = x := by
    have hr' : RowsOf B0 B1 B2 ((M ++ [y]) ++ x :: L2) := by rw [List.append_assoc]; exact hr
    exact rows_at hr' (by simp; omega)
  rw [hxx, hy] at hlt
  refine ⟨i0, i1, hm, hok, by omega, by omega, M, x, y :: L2, hM, by simp at hlen ⊢; omega, ?_, hs, fun z hz => ?_, hc, hk, hw⟩
  · have := rows_swap hr hM
    rw [e1]
    exact this
  · rcases List.mem_cons.1 hz with rfl | hz
    · exact hlt
    · exact hx z hz
theorem upq_end (hP : UPQ a B0 B1 B2 m i k) (h : k ≤ 0 ∨ decide (ltPl (B0 k.toNat, B1 k.toNat, B2 k.toNat) (B0 (IntKind.i64.wrap (k - 1)).toNat, B1 (IntKind.i64.wrap (k - 1)).toNat, B2 (IntKind.i64.wrap (k - 1)).toNat)) = false) :
    UPP a B0 B1 B2 m (IntKind.i64.wrap (i + 1)) := by
  obtain ⟨i0, i1, hm, hok, k0, k1, L1, x, L2, hl, hlen, hr, hs, hx, hc, hk, hw⟩ := hP
  have hok1 := hok.1
  rw [wrapI (x := i + 1) (by omega) (by omega)]
  have hfresh : x ∉ L1 ++ L2 := fun hin => by
    obtain ⟨j, h1, h2, _⟩ := (hc x).1 hin
    have := hok.2 j i.toNat (by omega) (by omega) (h2.trans hk.symm)
    omega
  have hbelow : ∀ y ∈ L1, ltPl y x := by
    intro y hy
    by_cases hk0 : k ≤ 0
    · have : L1 = [] := List.eq_nil_of_length_eq_zero (by omega)
      subst this
      cases hy
    · have hlt := of_decide_eq_false (h.resolve_left hk0)
      rw [wrapI (x := k - 1) (by omega) (by omega)] at hlt
      have hne : L1 ≠ [] := fun e => by rw [e] at hl; simp at hl; omega
      obtain ⟨M, z, rfl⟩ : ∃ M z, L1 = M ++ [z] := ⟨L1.dropLast, L1.getLast hne, (List.dropLast_concat_getLast hne).symm⟩
      have hM : M.length = (k - 1).toNat := by simp at hl; omega
      have hxx := rows_at hr hl
      have hr2 : RowsOf B0 B1 B2 (M ++ z :: x :: L2) := by rw [List.append_assoc] at hr; exact hr
      have hz := rows_at hr2 hM
      rw [hxx, hz] at hlt
      have hzx : ltPl z x := by
        by_cases hzx : ltPl z x
        · exact hzx
        · exact absurd (ltPl_total hlt hzx) (fun e => hfresh (by rw [e]; simp))
      rcases List.mem_append.1 hy with hy | hy
      · rw [List.append_assoc] at hs
        exact ltPl_trans ((List.pairwise_append.1 hs).2.2 y hy z (by simp)) hzx
      · rw [List.mem_singleton] at hy; subst hy; exact hzx
  have hs' := List.pairwise_append.1 hs
  refine ⟨by omega, by omega, by omega, hok, L1 ++ x :: L2, hlen, hr, List.pairwise_append.2 ⟨hs'.1, List.pairwise_cons.2 ⟨hx, hs'.2.1⟩, fun p hp q hq => ?_⟩, ?_⟩
  · rcases List.mem_cons.1 hq with rfl | hq
    · exact hbelow p hp
    · exact hs'.2.2 p hp q hq
  · rw [show (i + 1).toNat = i.toNat + 1 by omega]
    exact came_step hc hk hw
def upHp (a : UB) (B0 B1 B2 : Nat → Int) (m : Nat) : List (Nat × Chunk Rep) := [(0, .row [.tsl 2 a.len] tRC), (1, .rep (.vec [.int .i64 B0, .int .i64 B1, .int .i64 B2] m 113)), (2, .rep (.vec (oneCols a.A0 a.A1 a.A2 a.W) a.len tOne))]
def upT (a : UB) (l : List SV) (s : Sym Rep) : Prop := ∃ (B0 B1 B2 : Nat → Int) (m : Nat), l = [.tsl 1 m] ∧ s.hp = upHp a B0 B1 B2 m ∧ ∃ L, L.length = m ∧ RowsOf B0 B1 B2 L ∧ L.Pairwise ltPl ∧ Came a a.len L
abbrev upQ (a : UB) : Ex → Sym Rep → Prop := Ends Try.prog Try.f104 (upT a)
def upI (a : UB) (r : Nat) (s : Sym Rep) : Prop := ∃ (B0 B1 B2 : Nat → Int) (m : Nat) (i : Int), s = upS a B0 B1 B2 m i ∧ UPP a B0 B1 B2 m i ∧ r = a.len - i.toNat
def upJ (a : UB) (i : Int) (r : Nat) (s : Sym Rep) : Prop := ∃ (B0 B1 B2 : Nat → Int) (m : Nat) (k : Int), s = upS2 a B0 B1 B2 m i k ∧ UPQ a B0 B1 B2 m i k ∧ r = k.toNat
abbrev upR (a : UB) (k : Nat) (x : Ex) (s : Sym Rep) : Prop := match x with
  | .nor => ∃ k', k' < k ∧ upI a k' s
  | x => Tri repAt Try.prog upZ 1 (.out x) upL.2 s (upQ a)
abbrev upR2 (a : UB) (i : Int) (n k : Nat) (x : Ex) (s : Sym Rep) : Prop := match x with
  | .nor => ∃ k', k' < k ∧ upJ a i k' s
  | x => Tri repAt Try.prog upZ 1 (.out x) upM.2 s (upR a n)
theorem up_next (a : UB) (B0 B1 B2 : Nat → Int) (m : Nat) (i : Int) {r : Nat} (hP : UPP a B0 B1 B2 m i) (hk : a.len - i.toNat < r) : Tri repAt Try.prog upZ 1 (.out .nor) [] (upS a B0 B1 B2 m i) (upR a r) := Tri.fin ⟨_, hk, B0, B1, B2, m, i, rfl, hP, rfl⟩
theorem up_next2 (a : UB) (B0 B1 B2 : Nat → Int) (m : Nat) (i k : Int) {n r : Nat} (hP : UPQ a B0 B1 B2 m i k) (hk : k.toNat < r) : Tri repAt Try.prog upZ 1 (.out .nor) [] (upS2 a B0 B1 B2 m i k) (upR2 a i n r) := Tri.fin ⟨_, hk, B0, B1, B2, m, k, rfl, hP, rfl⟩
theorem upi_less (hP : UPP a B0 B1 B2 m i) (h0 : decide (i < (a.len : Int)) = true) {r : Nat} (hr : r = a.len - i.toNat) : a.len - (IntKind.i64.wrap (i + 1)).toNat < r := by
  obtain ⟨i0, i1, hm, hok, _⟩ := hP
  have hlt := of_decide_eq_true h0
  have := hok.1
  rw [wrapI (by omega) (by omega)]
  omega
theorem upq_less (hP : UPQ a B0 B1 B2 m i k) {r : Nat} (hr : r = a.len - i.toNat) : a.len - (IntKind.i64.wrap (i + 1)).toNat < r := by
  obtain ⟨i0, i1, hm, hok, _⟩ := hP
  have := hok.1
  rw [wrapI (by omega) (by omega)]
  omega
theorem upk_less (hP : UPQ a B0 B1 B2 m i k) (h0 : decide (k > 0) = true) {r : Nat} (hr : r = k.toNat) : (IntKind.i64.wrap (k - 1)).toNat < r := by
  obtain ⟨i0, i1, hm, hok, k0, k1, _⟩ := hP
  have hlt := of_decide_eq_true h0
  have := hok.1
  rw [wrapI (by omega) (by omega)]
  omega
end Go.Proofs.Ytpaiejeipghehaa
end
