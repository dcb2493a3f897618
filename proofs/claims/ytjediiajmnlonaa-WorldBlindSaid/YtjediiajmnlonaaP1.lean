/- Maps from places to words, for the executor. No condition. -/
import Derived.Test.YtjediiajmnlonaaEL
import Derived.Test.YtjediiajmnlonaaM2
import Derived.Test.YtjediiajmnlonaaV1
namespace Go.Proofs.Ytjediiajmnlonaa
open Go.RowKit

abbrev tMap : TypeId := 171
/-- A kind of cells; a column of a row of elements. -/
inductive CK where
  | int (kd : IntKind)
  | bool
  | str
  | raw
inductive Col where
  | int (kd : IntKind) (W : Nat → Int)
  | bool (W : Nat → Bool)
  | str (W : Nat → ByteArray)
  | raw (W : Nat → Value)
def Col.at : Col → Nat → Value
  | .int kd W, i => .int kd (W i)
  | .bool W, i => .bool (W i)
  | .str W, i => .string (W i)
  | .raw W, i => W i
def colsF : List Col → Nat → List Value
  | [], _ => []
  | c :: r, i => c.at i :: colsF r i
inductive Rep where
  | pmap (l : List (Pl × Int)) (g : Pl → Int) (n : Nat)
  | vec (cs : List Col) (len : Nat) (t : TypeId)
  | tab (cs : List Col) (len : Nat)
  | junk
/-- What a row of stores comes to, the last one first, over what was there. -/
def getL : List (Pl × Int) → (Pl → Int) → Pl → Int
  | [], g, q => g q
  | (p, v) :: r, g, q => if q = p then v else getL r g q
def zeroG : Pl → Int := fun _ => 0
def Rep.At (B : Nat) : Rep → Spot → List Nat → World → Prop
  | .pmap l g n, e, own, w => own = [e.b] ∧ MapAt w e.b (getL l g) n
  | .vec cs len t, e, own, w => VecAt (colsF cs) len t cs.length e own w
  | .tab cs len, e, own, w => TabAt B (colsF cs) len cs.length e own w
  | .junk, _, own, _ => own = []

theorem MapAt.lt {w : World} {b n : Nat} {f : Pl → Int} (h : MapAt w b f n) : b < w.heap.size := by
  obtain ⟨D, ⟨es, cl, h1, _⟩, _⟩ := h
  exact heap_lt h1
theorem MapAt.modP {T : Nat → Prop} {w w' : World} {b n : Nat} {f : Pl → Int} (h : MapAt w b f n) (hm : ModP T w w') (hb : ¬ T b) : MapAt w' b f n := by
  obtain ⟨D, ⟨es, cl, h1, h2⟩, h3⟩ := h
  exact ⟨D, ⟨es, cl, by rw [hm.block b (heap_lt h1) hb]; exact h1, h2⟩, h3⟩
def repAt : RepAt Rep where
  At := Rep.At
  stable {B r e own T w w'} h hm hT hB := by
    cases r with
    | pmap l g n => exact ⟨h.1, h.2.modP hm (hT e.b (by rw [h.1]; simp))⟩
    | vec cs len t => exact VecAt.modP h hm hT
    | tab cs len => exact TabAt.modP h hm hB
    | junk => exact h

/-- A map's numbers reckoned out. -/
def fPl {β : Type} (p : Pl) (k : Pl → β) : β := fInt p.1 fun a => fInt p.2.1 fun b => fInt p.2.2 fun c => k (a, b, c)
def fPls {β : Type} : List (Pl × Int) → (List (Pl × Int) → β) → β
  | [], k => k []
  | (p, v) :: l, k => fPl p fun p => fInt v fun v => fPls l fun l => k ((p, v) :: l)
def fRep {β : Type} (r : Rep) (k : Rep → β) : β := match r with
  | .pmap f g n => fPls f fun f => fNat n fun n => k (.pmap f g n)
  | r => k r
theorem fRep_eq {β : Type} (r : Rep) (k : Rep → β) : fRep r k = k r := by
  have hp : ∀ (l : List (Pl × Int)) (k : List (Pl × Int) → β), fPls l k = k l := fun l => by
    induction l with
    | nil => exact fun _ => rfl
    | cons p l ih =>
      intro k
      obtain ⟨p, v⟩ := p
      simp [fPls, fPl, fInt_eq, ih]
  cases r with
  | pmap f g n => simp [fRep, hp, fNat_eq]
  | _ => rfl
def plOf : SV → Option Pl
  | .agg [.v (.int .i64 a), .v (.int .i64 b), .v (.int .i64 c)] => some (a, b, c)
  | .v (.agg ⟨[.int .i64 a, .int .i64 b, .int .i64 c]⟩) => some (a, b, c)
  | _ => none
def plWfB (p : Pl) : Bool := (Lit.int .i64 p.1).wf && (Lit.int .i64 p.2.1).wf && (Lit.int .i64 p.2.2).wf
theorem plWfB_iff {p : Pl} : plWfB p = true ↔ PlWf p := by
  simp [plWfB, PlWf, and_assoc]
theorem plOf_den {ρ : Names} {s : SV} {p : Pl} {x : Value} (h : plOf s = some p) (hx : den ρ s = some x) : x = kagg p := by
  unfold plOf at h
  split at h
  · injection h with h
    subst h
    simp only [den, denL, Option.map_some, Option.some.injEq] at hx
    exact hx.symm
  · injection h with h
    subst h
    simp only [den, Option.some.injEq] at hx
    exact hx.symm
  · cases h

def mapGet (m k : Option SV) : M Rep SV := (M.opt 300 m).bind fun
  | .mp n => (getC n).bind fun
    | .rep (.pmap f g _) => (M.opt 301 (k.bind plOf)).bind fun p => (need 302 (plWfB p)).bind fun _ => .ret (.v (.int .u64 (getL f g p)))
    | _ => .fail 303
  | _ => .fail 304
def wordOf : SV → Option Int
  | .v (.int .u64 x) => some x
  | _ => none
def mapPut (m k v : Option SV) : M Rep SV := (M.opt 310 m).bind fun
  | .mp n => (getC n).bind fun
    | .rep (.pmap f g c) => (M.opt 311 (k.bind plOf)).bind fun p => (M.opt 312 (v.bind wordOf)).bind fun x => (need 313 (plWfB p && (Lit.int .u64 x).wf && x != 0 && decide (c < maxLen))).bind fun _ =>
      (setC n (.rep (.pmap ((p, x) :: f) g (c + 1)))).bind fun _ => .ret undefX
    | _ => .fail 314
  | _ => .fail 315
def mapDel (m k : Option SV) : M Rep SV := (M.opt 320 m).bind fun
  | .mp n => (getC n).bind fun
    | .rep (.pmap f g c) => (M.opt 321 (k.bind plOf)).bind fun p => (need 322 (plWfB p)).bind fun _ =>
      (setC n (.rep (.pmap ((p, 0) :: f) g c))).bind fun _ => .ret (.tup [])
    | _ => .fail 323
  | _ => .fail 324
def extM (ev : Operand → Option SV) (o : Oper) : Option (M Rep SV) := match o.op with
  | .makeMap t none => match Nat.beq t tMap with
    | true => some ((newC (.rep (.pmap [] zeroG 0))).bind fun n => .ret (.mp n))
    | false => none
  | .lookup t m k false => match Nat.beq t tMap with
    | true => some (mapGet (ev m) (ev k))
    | false => none
  | .mapUpdate t m k v => match Nat.beq t tMap with
    | true => some (mapPut (ev m) (ev k) (ev v))
    | false => none
  | .call ⟨.builtin .delete, ⟨[m, k]⟩, ⟨[t, kt]⟩⟩ => match Nat.beq t tMap && Nat.beq kt 53 with
    | true => some (mapDel (ev m) (ev k))
    | false => none
  | _ => none

section
variable {st st' : St Rep} {o : Oper} {ev : Operand → Option SV} {s : SV}
theorem CAt_rep {ρ : Names} {B : Nat} {e : Spot} {own : List Nat} {r : Rep} {w : World} : CAt repAt Try.prog ρ B e own (.rep r) w ↔ r.At B e own w := Iff.rfl
set_option maxRecDepth 100000 in
theorem extM_ok : ∀ ev o m, extM ev o = some m → ∀ st s st', m st = .ok s st' → OpS repAt Try.prog o ev st st' s := by
  intro ev o m hm st s st' h
  obtain ⟨dst, op, ty, pos, aft, gu⟩ := o
  unfold extM at hm
  split at hm
  · -- makeMap
    next t he =>
    simp only at he
    subst he
    split at hm <;> cases hm
    next ht =>
    have ht := Nat.eq_of_beq_eq_true ht
    subst ht
    obtain ⟨n, st1, h1, h2⟩ := bind_ok.1 h
    obtain ⟨rfl, rfl⟩ := newC_ok.1 h1
    obtain ⟨rfl, rfl⟩ := ret_ok.1 h2
    refine ⟨Fn.new _ _, fun B F ρ own w a si hev K Q hk => ?_⟩
    have ht := Tr.new (w' := w.alloc (.map #[] 0)) si ⟨w.heap.size, 0, 0, 0, 0, none⟩ [w.heap.size] (alloc_mod w _) (show Rep.At B (.pmap [] zeroG 0) ⟨w.heap.size, 0, 0, 0, 0, none⟩ [w.heap.size] _ from ⟨rfl, MapAt.new w⟩) (fun b hb => by
      rw [List.mem_singleton] at hb
      subst hb
      simp)
    refine wp_val (x := .map (some w.heap.size)) ?_ (hk _ _ _ _ ht (by simp [den, Names.put_same]))
    simp only [execOp, Option.map_none, Sem.run_bind, run_makeMap]
    rfl
  · -- lookup
    next t m k he =>
    simp only at he
    subst he
    split at hm <;> cases hm
    next ht =>
    have ht := Nat.eq_of_beq_eq_true ht
    subst ht
    obtain ⟨sm, _, h1, h2⟩ := bind_ok.1 h
    obtain ⟨hsm, rfl⟩ := opt_ok.1 h1
    split at h2
    · next n =>
      obtain ⟨c, st1, h3, h4⟩ := bind_ok.1 h2
      obtain ⟨hc, rfl⟩ := getC_ok.1 h3
      split at h4
      · next f g cnt =>
        obtain ⟨p, _, h5, h6⟩ := bind_ok.1 h4
        obtain ⟨hp, rfl⟩ := opt_ok.1 h5
        simp only [Option.bind_eq_some_iff] at hp
        obtain ⟨sk, hsk, hp⟩ := hp
        obtain ⟨_, st2, h7, h8⟩ := bind_ok.1 h6
        obtain ⟨q2, hq⟩ := need_ok h7
        obtain ⟨rfl, rfl⟩ := ret_ok.1 h8
        have q := Quiet.get.trans q2
        refine ⟨q.fn, fun B F ρ own w a si hev K Q hk => ?_⟩
        obtain ⟨e, he, hat⟩ := si.li.at_ n _ (si.log n (q2.fr n (mem_ins.2 (.inl rfl)))) hc
        have e1 := hev _ _ hsm
        simp only [den, he, Option.map_some, Option.some.injEq] at e1
        have e2 := plOf_den hp (hev _ _ hsk)
        refine wp_val (vrun ?_) (hk _ ρ own w (si.quiet q) rfl)
        rw [← e1, e2]
        exact (CAt_rep.1 hat).2.lookup (plWfB_iff.1 (hq si.ask)) Try.underlying171
      · exact (fail_ok.1 h4).elim
    · exact (fail_ok.1 h2).elim
  · -- update
    next t m k v he =>
    simp only at he
    subst he
    split at hm <;> cases hm
    next ht =>
    have ht := Nat.eq_of_beq_eq_true ht
    subst ht
    obtain ⟨sm, _, h1, h2⟩ := bind_ok.1 h
    obtain ⟨hsm, rfl⟩ := opt_ok.1 h1
    split at h2
    · next n =>
      obtain ⟨c, st1, h3, h4⟩ := bind_ok.1 h2
      obtain ⟨hc, rfl⟩ := getC_ok.1 h3
      split at h4
      · next f g cnt =>
        obtain ⟨p, _, h5, h6⟩ := bind_ok.1 h4
        obtain ⟨hp, rfl⟩ := opt_ok.1 h5
        simp only [Option.bind_eq_some_iff] at hp
        obtain ⟨sk, hsk, hp⟩ := hp
        obtain ⟨x, _, h7, h8⟩ := bind_ok.1 h6
        obtain ⟨hx, rfl⟩ := opt_ok.1 h7
        simp only [Option.bind_eq_some_iff] at hx
        obtain ⟨sv, hsv, hx⟩ := hx
        obtain ⟨_, st2, h9, h10⟩ := bind_ok.1 h8
        obtain ⟨q2, hq⟩ := need_ok h9
        obtain ⟨_, st3, h11, h12⟩ := bind_ok.1 h10
        obtain ⟨_, rfl⟩ := setC_ok.1 h11
        obtain ⟨rfl, rfl⟩ := ret_ok.1 h12
        have q := Quiet.get.trans q2
        have hc2 : hget n st2.hp = some (.rep (.pmap f g cnt)) := by rw [q.hp]; exact hc
        refine ⟨q.fn.trans (Fn.set st2 n (.rep (.pmap ((p, x) :: f) g (cnt + 1))) _ hc2), fun B F ρ own w a si hev K Q hk => ?_⟩
        have s1 := si.of_quiet q
        have hn := hq si.ask
        simp only [Bool.and_eq_true, bne_iff_ne, ne_eq, decide_eq_true_eq] at hn
        obtain ⟨⟨⟨n1, n2⟩, n3⟩, n4⟩ := hn
        obtain ⟨e, he, hat⟩ := s1.li.at_ n _ (s1.log n (mem_ins.2 (.inl rfl))) hc2
        have e1 := hev _ _ hsm
        simp only [den, he, Option.map_some, Option.some.injEq] at e1
        have e2 := plOf_den hp (hev _ _ hsk)
        have e3 : a.eval v = .int .u64 x := by
          have := hev _ _ hsv
          unfold wordOf at hx
          split at hx <;> cases hx
          simp only [den, Option.some.injEq] at this
          exact this.symm
        obtain ⟨ho, hmap⟩ := CAt_rep.1 hat
        obtain ⟨w', hr, hm', hmod⟩ := hmap.store n4 (plWfB_iff.1 n1) n2 n3 Try.underlying171
        have ht := Tr.set s1 hc2 he (own n) ((ModP.of_mod hmod).mono (fun b _ hb => by rw [ho]; exact hb)) (show Rep.At B (.pmap ((p, x) :: f) g (cnt + 1)) e (own n) w' from ⟨ho, hm'⟩) (fun b hb => .inl hb)
        refine wp_unit ?_ (hk undef _ _ _ (Tr.of_quiet q ht) rfl)
        simp only [execOp, ← e1, e2, e3, Sem.run_bind, hr, Result.andThen_ok]
        rfl
      · exact (fail_ok.1 h4).elim
    · exact (fail_ok.1 h2).elim
  · -- delete
    next m k t kt he =>
    simp only at he
    subst he
    split at hm <;> cases hm
    next ht =>
    simp only [Bool.and_eq_true] at ht
    have ht1 := Nat.eq_of_beq_eq_true ht.1
    have ht2 := Nat.eq_of_beq_eq_true ht.2
    subst ht1
    subst ht2
    obtain ⟨sm, _, h1, h2⟩ := bind_ok.1 h
    obtain ⟨hsm, rfl⟩ := opt_ok.1 h1
    split at h2
    · next n =>
      obtain ⟨c, st1, h3, h4⟩ := bind_ok.1 h2
      obtain ⟨hc, rfl⟩ := getC_ok.1 h3
      split at h4
      · next f g cnt =>
        obtain ⟨p, _, h5, h6⟩ := bind_ok.1 h4
        obtain ⟨hp, rfl⟩ := opt_ok.1 h5
        simp only [Option.bind_eq_some_iff] at hp
        obtain ⟨sk, hsk, hp⟩ := hp
        obtain ⟨_, st2, h9, h10⟩ := bind_ok.1 h6
        obtain ⟨q2, hq⟩ := need_ok h9
        obtain ⟨_, st3, h11, h12⟩ := bind_ok.1 h10
        obtain ⟨_, rfl⟩ := setC_ok.1 h11
        obtain ⟨rfl, rfl⟩ := ret_ok.1 h12
        have q := Quiet.get.trans q2
        have hc2 : hget n st2.hp = some (.rep (.pmap f g cnt)) := by rw [q.hp]; exact hc
        refine ⟨q.fn.trans (Fn.set st2 n (.rep (.pmap ((p, 0) :: f) g cnt)) _ hc2), fun B F ρ own w a si hev K Q hk => ?_⟩
        have s1 := si.of_quiet q
        obtain ⟨e, he, hat⟩ := s1.li.at_ n _ (s1.log n (mem_ins.2 (.inl rfl))) hc2
        have e1 := hev _ _ hsm
        simp only [den, he, Option.map_some, Option.some.injEq] at e1
        have e2 := plOf_den hp (hev _ _ hsk)
        obtain ⟨ho, hmap⟩ := CAt_rep.1 hat
        obtain ⟨w', hr, hm', hmod⟩ := hmap.drop (plWfB_iff.1 (hq si.ask)) Try.underlying171 ty
        have ht := Tr.set s1 hc2 he (own n) ((ModP.of_mod hmod).mono (fun b _ hb => by rw [ho]; exact hb)) (show Rep.At B (.pmap ((p, 0) :: f) g cnt) e (own n) w' from ⟨ho, hm'⟩) (fun b hb => .inl hb)
        refine wp_val (x := .tuple #[]) ?_ (hk _ _ _ _ (Tr.of_quiet q ht) rfl)
        have hargs : (#[m, k].map a.eval : Array Value) = #[.map (some e.b), kagg p] := by
          have : (#[m, k] : Array Operand).map a.eval = #[a.eval m, a.eval k] := by simp
          rw [this, ← e1, e2]
        simp only [execOp, resolve, Sem.run_bind, Sem.run_pure, Result.andThen_ok, invoke, builtin]
        rw [show (⟨[m, k]⟩ : Array Operand).map a.eval = #[.map (some e.b), kagg p] from hargs, hr]
        rfl
      · exact (fail_ok.1 h4).elim
    · exact (fail_ok.1 h2).elim
  · cases hm
end
end Go.Proofs.Ytjediiajmnlonaa
