/- What the executor does at rows of open number: an element's place, load, store, append; and that the machine does it. No condition. -/
import Derived.Test.YtjediiajmnlonaaP1
namespace Go.Proofs.Ytjediiajmnlonaa
open Go.RowKit

def plainL : List SV → Option (List Value)
  | [] => some []
  | .v x :: r => (plainL r).map fun l => x :: l
  | _ :: _ => none
theorem plainL_den {ρ : Names} : ∀ {l : List SV} {vs us : List Value}, plainL l = some vs → denL ρ l = some us → us = vs
  | [], vs, us, h, hd => by
    simp only [plainL, denL, Option.some.injEq] at h hd
    rw [← h, ← hd]
  | .v x :: r, vs, us, h, hd => by
    simp only [plainL, Option.map_eq_some_iff] at h
    obtain ⟨l, h1, rfl⟩ := h
    obtain ⟨a, b, h2, h3, rfl⟩ := denL_cons.1 hd
    simp only [den, Option.some.injEq] at h2
    rw [plainL_den h1 h3, h2]
  | .ptr .. :: _, _, _, h, _ | .sl .. :: _, _, _, h, _ | .slE .. :: _, _, _, h, _ | .tptr .. :: _, _, _, h, _ | .tsl .. :: _, _, _, h, _ | .mp .. :: _, _, _, h, _ | .ifc .. :: _, _, _, h, _ | .agg .. :: _, _, _, h, _ | .tup .. :: _, _, _, h, _ | .clo .. :: _, _, _, h, _ => by cases h

def updI {α : Type} (W : Nat → α) (i : Nat) (v : α) : Nat → α := fun m => if m = i then v else W m
def joinI {α : Type} (W : Nat → α) (len : Nat) (V : Nat → α) : Nat → α := fun i => if i < len then W i else V (i - len)
def eqKd (a b : IntKind) : Bool := match decide (a = b) with
  | true => true
  | false => false
/-- Cells of element i are others. -/
def updC : Col → Nat → Value → Option Col
  | .int kd W, i, .int kd' z => match eqKd kd kd' with
    | true => some (.int kd (updI W i z))
    | false => none
  | .bool W, i, .bool b => some (.bool (updI W i b))
  | .str W, i, .string b => some (.str (updI W i b))
  | .raw W, i, x => some (.raw (updI W i x))
  | _, _, _ => none
def updCs : List Col → Nat → Nat → List Value → Option (List Col)
  | cs, _, 0, [] => some cs
  | c :: cs, i, 0, v :: vs => match updC c i v, updCs cs i 0 vs with
    | some c, some cs => some (c :: cs)
    | _, _ => none
  | c :: cs, i, j + 1, vs => match updCs cs i j vs with
    | some cs => some (c :: cs)
    | none => none
  | [], _, _, _ => none
def joinC : Col → Nat → Col → Option Col
  | .int kd W, n, .int kd' V => match eqKd kd kd' with
    | true => some (.int kd (joinI W n V))
    | false => none
  | .bool W, n, .bool V => some (.bool (joinI W n V))
  | .str W, n, .str V => some (.str (joinI W n V))
  | .raw W, n, V => some (.raw (joinI W n V.at))
  | _, _, _ => none
def joinCs : List Col → Nat → List Col → Option (List Col)
  | [], _, [] => some []
  | c :: cs, n, d :: ds => match joinC c n d, joinCs cs n ds with
    | some c, some cs => some (c :: cs)
    | _, _ => none
  | _, _, _ => none
def constC : Value → Col
  | .int kd z => .int kd fun _ => z
  | .bool b => .bool fun _ => b
  | .string b => .str fun _ => b
  | x => .raw fun _ => x

section
variable (P : Program)
def vecIdx (n len : Nat) (elem : TypeId) (i : Int) : M Rep SV := (getC n).bind fun
  | .rep (.vec cs len' _) => (want 330 (match szT P elem with | some k' => Nat.beq k' cs.length | none => false)).bind fun _ => (need 331 (decide (0 ≤ i ∧ i < (len : Int) ∧ len ≤ len'))).bind fun _ => .ret (.tptr n i.toNat 0)
  | .rep (.tab cs len') => (want 332 (match szT P elem with | some k' => Nat.beq k' cs.length | none => false)).bind fun _ => (need 333 (decide (0 ≤ i ∧ i < (len : Int) ∧ len ≤ len'))).bind fun _ => .ret (.tptr n i.toNat 0)
  | _ => .fail 334
def arrIdx (t : TypeId) (n : Nat) (kd : IntKind) (i : Int) (alen : Nat) (elem : TypeId) : M Rep SV := (getC n).bind fun
  | .rep (.vec cs len' _) => (want 335 (match szT P elem with | some k' => Nat.beq k' cs.length | none => false)).bind fun _ => (need 336 (decide (0 ≤ i ∧ i < (alen : Int) ∧ alen ≤ len'))).bind fun _ => .ret (.tptr n i.toNat 0)
  | _ => idxX P t (.ptr n 0) (.v (.int kd i))
def vecLoad (t : TypeId) (n i j : Nat) : M Rep SV := (getC n).bind fun
  | .rep (.vec cs _ _) => .opt 337 (partX P t ((colsF cs i).map .v) j)
  | .rep (.tab cs _) => .opt 338 (partX P t ((colsF cs i).map .v) j)
  | _ => .fail 339
def vecStore (t : TypeId) (n i j : Nat) (v : SV) : M Rep SV := (M.opt 340 (plainL v.cells)).bind fun vs => (M.opt 341 (szT P t)).bind fun kk => (getC n).bind fun
  | .rep (.vec cs len t') => (want 342 (Nat.beq vs.length kk && vs.all Value.oneCell')).bind fun _ => (M.opt 344 (updCs cs i j vs)).bind fun cs' =>
    (setC n (.rep (.vec cs' len t'))).bind fun _ => .ret undefX
  | _ => .fail 343
/-- The elements to be appended. -/
def vecSrc (k : Nat) : SV → M Rep (Nat × List Col)
  | .tsl n m => (getC n).bind fun
    | .rep (.vec cs len' _) => (want 344 (Nat.beq k cs.length)).bind fun _ => (need 345 (decide (m ≤ len'))).bind fun _ => .ret (m, cs)
    | .rep (.tab cs len') => (want 346 (Nat.beq k cs.length)).bind fun _ => (need 347 (decide (m ≤ len'))).bind fun _ => .ret (m, cs)
    | _ => .fail 348
  | x => (srcX k x).bind fun r => (M.opt 349 (plainL r.2)).bind fun vs => (want 361 (Nat.beq r.1 1 && vs.all Value.oneCell')).bind fun _ => .ret (1, vs.map constC)
def vecAppend (t tx : TypeId) (s x : SV) : M Rep SV := match P.underlying t with
  | some (.slice elem) => (M.opt 350 (P.info? elem)).bind fun i => (want 351 (!Nat.beq i.size 0 && !Nat.beq i.bytes 0 && zeroFits i && isSliceT P (some tx))).bind fun _ => (vecSrc i.size x).bind fun r => match s with
    | .tsl n len => (getC n).bind fun
      | .rep (.vec cs len' t') => (want 352 (Nat.beq t' elem && Nat.beq cs.length i.size)).bind fun _ => (need 353 (decide (len ≤ len' ∧ (len + r.1) * i.bytes ≤ 140737488351232))).bind fun _ => (M.opt 362 (joinCs cs len r.2)).bind fun cs' => (delC n).bind fun _ =>
        (newC (.rep (.vec cs' (len + r.1) elem))).bind fun n' => .ret (.tsl n' (len + r.1))
      | _ => .fail 354
    | .sl n 0 0 0 => (getC n).bind fun
      | .row [] t' => (want 355 (Nat.beq t' elem && Nat.beq r.2.length i.size)).bind fun _ => (need 356 (decide (r.1 * i.bytes ≤ 140737488351232))).bind fun _ => (delC n).bind fun _ =>
        (newC (.rep (.vec r.2 r.1 elem))).bind fun n' => .ret (.tsl n' r.1)
      | _ => .fail 357
    | .v (.slice none 0 0) => (want 363 (Nat.beq r.2.length i.size)).bind fun _ => (need 358 (decide (r.1 * i.bytes ≤ 140737488351232))).bind fun _ => (newC (.rep (.vec r.2 r.1 elem))).bind fun n' => .ret (.tsl n' r.1)
    | _ => .fail 359
  | _ => .fail 360
/-- A number among the first k, found out one by one. -/
def pickN : Nat → Nat → Int → M Rep Nat
  | 0, _, _ => .fail 370
  | k + 1, c, z => (askB (decide (z = (c : Int)))).bind fun
    | true => .ret c
    | false => pickN k (c + 1) z
def concIdx (n off len k : Nat) (z : Int) : M Rep SV := (pickN len 0 z).bind fun c => .ret (.ptr n (off + c * k))
def isPtrT (t : TypeId) : Bool := match P.underlying t with
  | some (.pointer _) => true
  | _ => false
def isTsl : SV → Bool
  | .tsl _ _ => true
  | _ => false
def extV (ev : Operand → Option SV) (o : Oper) : Option (M Rep SV) := match o.op with
  | .indexAddr t x i => match ev x, ev i with
    | some (.tsl n len), some (.v (.int _ z)) => match P.underlying t with
      | some (.slice elem) => some (vecIdx P n len elem z)
      | _ => none
    | some (.ptr n 0), some (.v (.int kd z)) => match P.underlying t with
      | some (.array alen elem) => some (arrIdx P t n kd z alen elem)
      | _ => none
    | some (.sl n off _ len), some (.v (.int _ z)) => match P.underlying t with
      | some (.slice elem) => match isPtrT P elem, szT P elem with
        | true, some k => some (concIdx n off len k z)
        | _, _ => none
      | _ => none
    | _, _ => none
  | .load t x => match ev x with
    | some (.tptr n i j) => some (vecLoad P t n i j)
    | _ => none
  | .store t x y => match ev x with
    | some (.tptr n i j) => match ev y with
      | some v => some (vecStore P t n i j v)
      | none => none
    | _ => none
  | .call ⟨.builtin .append, ⟨[s, x]⟩, ⟨[t, tx]⟩⟩ => match ev s, ev x with
    | some a, some b => match isTsl a || isTsl b with
      | true => some (vecAppend P t tx a b)
      | false => none
    | _, _ => none
  | _ => none
end

section
variable {P : Program} {st st1 st' : St Rep} {B : Nat} {F : Nat → Prop} {ρ ρ' : Names} {own own' : Nat → List Nat} {w w' : World}
theorem szB {elem : TypeId} {k : Nat} (h : (match szT P elem with | some k' => Nat.beq k' k | none => false) = true) : szT P elem = some k := by
  split at h
  · next k' hk => rw [hk, Nat.eq_of_beq_eq_true h]
  · cases h
theorem vkey {n len len' k : Nat} {t elem : TypeId} {z : Int} {e : Spot} (he : ρ n = some e) (hl : e.len = len') (hk : e.sz = k) (had : 0 < len' → e.ad = some ⟨e.b, e.off, none⟩) (hsz : szT P elem = some k) (hz : 0 ≤ z ∧ z < (len : Int) ∧ len ≤ len') (hu : P.underlying t = some (.slice elem)) (a : Value) (kd : IntKind) (ha : den ρ (.tsl n len) = some a) :
    ∃ y, (Instr.indexAt t a (.int kd z)).run P w = .ok y w ∧ den ρ (.tptr n z.toNat 0) = some y := by
  obtain ⟨g1, g2, g3⟩ := hz
  simp only [den, he, Option.map_some, Option.some.injEq] at ha
  subst ha
  refine ⟨.pointer (some ⟨e.b, e.off + z.toNat * e.sz, none⟩), ?_, ?_⟩
  · simp only [Instr.indexAt, asIntOf, Sem.run_bind, Sem.run_pure, Result.andThen_ok, run_underlying hu w, g1, g2, and_self, if_true, szT_run hsz w, had (by omega), add_at, hk]
  · have : z.toNat < e.len := by omega
    simp [den, he, this]
theorem vecIdx_s {n len : Nat} {t elem : TypeId} {z : Int} {s : SV} (hu : P.underlying t = some (.slice elem)) (h : vecIdx P n len elem z st = .ok s st') : Quiet st st' ∧ ∀ B F ρ own w a kd, Sit repAt P B F st st' ρ own w → den ρ (.tsl n len) = some a →
    ∃ y, (Instr.indexAt t a (.int kd z)).run P w = .ok y w ∧ den ρ s = some y := by
  unfold vecIdx at h
  obtain ⟨c, st1, h1, h2⟩ := bind_ok.1 h
  obtain ⟨hc, rfl⟩ := getC_ok.1 h1
  split at h2
  · next cs len' t' =>
    obtain ⟨_, _, h3, h4⟩ := bind_ok.1 h2
    obtain ⟨hsz, rfl⟩ := want_ok.1 h3
    obtain ⟨_, st2, h5, h6⟩ := bind_ok.1 h4
    obtain ⟨q, hq⟩ := need_ok h5
    obtain ⟨rfl, rfl⟩ := ret_ok.1 h6
    refine ⟨Quiet.get.trans q, fun B F ρ own w a kd s ha => ?_⟩
    obtain ⟨e, he, hat⟩ := s.li.at_ n _ (s.log n (q.fr n (mem_ins.2 (.inl rfl)))) hc
    have hv : VecAt (colsF cs) len' t' cs.length e (own n) w := hat
    refine vkey he hv.1 hv.2.1 (fun hl => ?_) (szB hsz) (of_decide_eq_true (hq s.ask)) hu a kd ha
    obtain ⟨_, _, h3, _, h5⟩ := hv
    cases hx : e.ad with
    | none => rw [hx] at h5; have := h5.2; omega
    | some g => rw [hx] at h5; rw [h5.1]
  · next cs len' =>
    obtain ⟨_, _, h3, h4⟩ := bind_ok.1 h2
    obtain ⟨hsz, rfl⟩ := want_ok.1 h3
    obtain ⟨_, st2, h5, h6⟩ := bind_ok.1 h4
    obtain ⟨q, hq⟩ := need_ok h5
    obtain ⟨rfl, rfl⟩ := ret_ok.1 h6
    refine ⟨Quiet.get.trans q, fun B F ρ own w a kd s ha => ?_⟩
    obtain ⟨e, he, hat⟩ := s.li.at_ n _ (s.log n (q.fr n (mem_ins.2 (.inl rfl)))) hc
    have hv : TabAt B (colsF cs) len' cs.length e (own n) w := hat
    exact vkey he hv.2.1 hv.2.2.1 (fun hl => (hv.2.2.2.1 hl).1) (szB hsz) (of_decide_eq_true (hq s.ask)) hu a kd ha
  · exact (fail_ok.1 h2).elim
theorem arrIdx_s {n alen : Nat} {t elem : TypeId} {kd : IntKind} {z : Int} {s : SV} (hu : P.underlying t = some (.array alen elem)) (h : arrIdx P t n kd z alen elem st = .ok s st') : Quiet st st' ∧ ∀ B F ρ own w a, Sit repAt P B F st st' ρ own w → den ρ (.ptr n 0) = some a →
    ∃ y, (Instr.indexAt t a (.int kd z)).run P w = .ok y w ∧ den ρ s = some y := by
  unfold arrIdx at h
  obtain ⟨c, st1, h1, h2⟩ := bind_ok.1 h
  obtain ⟨hc, rfl⟩ := getC_ok.1 h1
  split at h2
  · next cs len' t' =>
    obtain ⟨_, _, h3, h4⟩ := bind_ok.1 h2
    obtain ⟨hsz, rfl⟩ := want_ok.1 h3
    obtain ⟨_, st2, h5, h6⟩ := bind_ok.1 h4
    obtain ⟨q, hq⟩ := need_ok h5
    obtain ⟨rfl, rfl⟩ := ret_ok.1 h6
    refine ⟨Quiet.get.trans q, fun B F ρ own w a s ha => ?_⟩
    obtain ⟨e, he, hat⟩ := s.li.at_ n _ (s.log n (q.fr n (mem_ins.2 (.inl rfl)))) hc
    have hv : VecAt (colsF cs) len' t' cs.length e (own n) w := hat
    obtain ⟨g1, g2, g3⟩ := of_decide_eq_true (hq s.ask)
    simp only [den, he, Option.map_some, Option.some.injEq, Nat.add_zero] at ha
    subst ha
    refine ⟨.pointer (some ⟨e.b, e.off + z.toNat * e.sz, none⟩), ?_, ?_⟩
    · simp only [Instr.indexAt, asIntOf, Sem.run_bind, Sem.run_pure, Result.andThen_ok, run_underlying hu w, Instr.sureAddr, g1, g2, and_self, if_true, szT_run (szB hsz) w, add_at, hv.2.1]
    · have : z.toNat < e.len := by rw [hv.1]; omega
      simp [den, he, this]
  · obtain ⟨q, hs⟩ := idx_s (A := repAt) h2
    exact ⟨Quiet.get.trans q, fun B F ρ own w a s ha => hs B F ρ own w a (.int kd z) (s.of_quiet Quiet.get) ha rfl⟩
theorem pickN_s : ∀ {k c : Nat} {z : Int} {r : Nat} {st st' : St Rep}, pickN k c z st = .ok r st' → Quiet st st' ∧ ((∀ p ∈ st'.ask, p.1 = p.2) → z = (r : Int) ∧ c ≤ r ∧ r < c + k)
  | 0, _, _, _, _, _, h => (fail_ok.1 h).elim
  | k + 1, c, z, r, st, st', h => by
    obtain ⟨b, st1, h1, h2⟩ := bind_ok.1 h
    obtain ⟨q, hq⟩ := ask_ok h1
    cases b with
    | true =>
      obtain ⟨rfl, rfl⟩ := ret_ok.1 h2
      exact ⟨q, fun ha => ⟨of_decide_eq_true (hq ha), Nat.le_refl _, by omega⟩⟩
    | false =>
      obtain ⟨q2, h3⟩ := pickN_s h2
      exact ⟨q.trans q2, fun ha => by obtain ⟨g1, g2, g3⟩ := h3 ha; exact ⟨g1, by omega, by omega⟩⟩
theorem concIdx_s {n off idx len k : Nat} {t elem : TypeId} {kd : IntKind} {z : Int} {s : SV} (hu : P.underlying t = some (.slice elem)) (hk : szT P elem = some k) (h : concIdx n off len k z st = .ok s st') : Quiet st st' ∧ ∀ B F ρ own w a, Sit repAt P B F st st' ρ own w → den ρ (.sl n off idx len) = some a →
    ∃ y, (Instr.indexAt t a (.int kd z)).run P w = .ok y w ∧ den ρ s = some y := by
  unfold concIdx at h
  obtain ⟨c, st1, h1, h2⟩ := bind_ok.1 h
  obtain ⟨q, hq⟩ := pickN_s h1
  obtain ⟨rfl, rfl⟩ := ret_ok.1 h2
  refine ⟨q, fun B F ρ own w a s ha => ?_⟩
  obtain ⟨rfl, _, g3⟩ := hq s.ask
  simp only [den, Option.map_eq_some_iff] at ha
  obtain ⟨e, he, rfl⟩ := ha
  refine ⟨.pointer (some ⟨e.b, e.off + off + c * k, none⟩), ?_, by simp [den, he, Nat.add_assoc]⟩
  have g4 : (0 : Int) ≤ (c : Int) ∧ (c : Int) < (len : Int) := by omega
  simp only [Instr.indexAt, asIntOf, Sem.run_bind, Sem.run_pure, Result.andThen_ok, run_underlying hu w, g4, and_self, if_true, szT_run hk w, add_at, Int.toNat_natCast]
theorem vecLoad_s {t : TypeId} {n i j : Nat} {s : SV} (h : vecLoad P t n i j st = .ok s st') : Quiet st st' ∧ ∀ B F ρ own w v, Sit repAt P B F st st' ρ own w → den ρ (.tptr n i j) = some v → ∃ y, den ρ s = some y ∧ (Instr.loadAt t v).run P w = .ok y w := by
  unfold vecLoad at h
  obtain ⟨c, st1, h1, h2⟩ := bind_ok.1 h
  obtain ⟨hc, rfl⟩ := getC_ok.1 h1
  split at h2
  · next cs len t' =>
    obtain ⟨hp, rfl⟩ := opt_ok.1 h2
    refine ⟨Quiet.get, fun B F ρ own w v s hx => ?_⟩
    obtain ⟨e, he, hat⟩ := s.li.at_ n _ (s.log n (mem_ins.2 (.inl rfl))) hc
    have hv : VecAt (colsF cs) len t' cs.length e (own n) w := hat
    simp only [den, he] at hx
    split at hx
    · next hlt =>
      simp only [Option.some.injEq] at hx
      subst hx
      refine load_part hp (denL_vs _) fun m u hu => ?_
      rw [Nat.add_assoc, hv.2.1]
      exact hv.cell (by rw [← hv.1]; exact hlt) hu
    · cases hx
  · next cs len =>
    obtain ⟨hp, rfl⟩ := opt_ok.1 h2
    refine ⟨Quiet.get, fun B F ρ own w v s hx => ?_⟩
    obtain ⟨e, he, hat⟩ := s.li.at_ n _ (s.log n (mem_ins.2 (.inl rfl))) hc
    have hv : TabAt B (colsF cs) len cs.length e (own n) w := hat
    simp only [den, he] at hx
    split at hx
    · next hlt =>
      simp only [Option.some.injEq] at hx
      subst hx
      refine load_part hp (denL_vs _) fun m u hu => ?_
      rw [Nat.add_assoc, hv.2.2.1]
      exact hv.cell (by rw [← hv.2.1]; exact hlt) hu
    · cases hx
  · exact (fail_ok.1 h2).elim
theorem eqKd_ok {a b : IntKind} (h : eqKd a b = true) : a = b := by
  unfold eqKd at h
  split at h
  · next hb => exact of_decide_eq_true hb
  · cases h
theorem updC_ok {c c' : Col} {i : Nat} {v : Value} (h : updC c i v = some c') (m : Nat) : c'.at m = if m = i then v else c.at m := by
  unfold updC at h
  split at h
  · split at h <;> cases h
    next hk =>
    obtain rfl := eqKd_ok hk
    simp only [Col.at, updI]
    split <;> rfl
  · injection h with h
    subst h
    simp only [Col.at, updI]
    split <;> rfl
  · injection h with h
    subst h
    simp only [Col.at, updI]
    split <;> rfl
  · injection h with h
    subst h
    simp only [Col.at, updI]
  · cases h
theorem colsF_length : ∀ {cs : List Col} {i : Nat}, (colsF cs i).length = cs.length
  | [], _ => rfl
  | _ :: r, i => by simp [colsF, colsF_length (cs := r)]
theorem updCs_ok : ∀ {cs cs' : List Col} {i j : Nat} {vs : List Value}, updCs cs i j vs = some cs' → j + vs.length ≤ cs.length ∧ cs'.length = cs.length ∧ ∀ m, colsF cs' m = if m = i then spliceV (colsF cs i) j vs else colsF cs m
  | cs, cs', i, 0, [], h => by
    have e : updCs cs i 0 [] = some cs := by cases cs <;> rfl
    rw [e] at h
    injection h with h
    subst h
    refine ⟨by simp, rfl, fun m => ?_⟩
    split
    · next e => subst e; simp [spliceV]
    · rfl
  | c :: cs, cs', i, 0, v :: vs, h => by
    simp only [updCs] at h
    split at h <;> cases h
    next c1 r h1 h2 =>
    obtain ⟨g1, g2, g3⟩ := updCs_ok h2
    refine ⟨by simp only [List.length_cons]; omega, by simp [g2], fun m => ?_⟩
    simp only [colsF, updC_ok h1 m, g3 m]
    split
    · simp [spliceV]
    · rfl
  | c :: cs, cs', i, j + 1, vs, h => by
    have e : updCs (c :: cs) i (j + 1) vs = (match updCs cs i j vs with | some cs => some (c :: cs) | none => none) := by cases vs <;> rfl
    rw [e] at h
    split at h <;> cases h
    next r h2 =>
    obtain ⟨g1, g2, g3⟩ := updCs_ok h2
    refine ⟨by simp only [List.length_cons]; omega, by simp [g2], fun m => ?_⟩
    simp only [colsF, g3 m]
    split
    · next e => subst e; simp [spliceV, Nat.add_right_comm]
    · rfl
  | [], cs', i, 0, v :: vs, h => by cases h
  | [], cs', i, j + 1, vs, h => by cases vs <;> cases h
theorem vecStore_s {t : TypeId} {n i j : Nat} {v s : SV} (h : vecStore P t n i j v st = .ok s st') : s = undefX ∧ Fn st st' ∧ ∀ B F ρ own w a b, Sit repAt P B F st st' ρ own w → den ρ (.tptr n i j) = some a → den ρ v = some b →
    ∃ ρ' own' w', (Instr.storeAt t a b).run P w = .ok () w' ∧ Tr repAt P B F st st' ρ own w ρ' own' w' := by
  unfold vecStore at h
  obtain ⟨vs, _, h1, h2⟩ := bind_ok.1 h
  obtain ⟨hvs, rfl⟩ := opt_ok.1 h1
  obtain ⟨kk, _, h3, h4⟩ := bind_ok.1 h2
  obtain ⟨hk, rfl⟩ := opt_ok.1 h3
  obtain ⟨c, st1, h5, h6⟩ := bind_ok.1 h4
  obtain ⟨hc, rfl⟩ := getC_ok.1 h5
  split at h6
  · next cs len t' =>
    obtain ⟨_, _, h7, h8⟩ := bind_ok.1 h6
    obtain ⟨hw, rfl⟩ := want_ok.1 h7
    obtain ⟨cs', _, h11, h8⟩ := bind_ok.1 h8
    obtain ⟨hcs, rfl⟩ := opt_ok.1 h11
    obtain ⟨_, st2, h9, h10⟩ := bind_ok.1 h8
    obtain ⟨_, rfl⟩ := setC_ok.1 h9
    obtain ⟨rfl, rfl⟩ := ret_ok.1 h10
    simp only [Bool.and_eq_true] at hw
    obtain ⟨hw1, hw3⟩ := hw
    have hw1 := Nat.eq_of_beq_eq_true hw1
    have hw3 := List.all_eq_true.1 hw3
    obtain ⟨hu1, hu2, hu3⟩ := updCs_ok hcs
    have q : Quiet st { st with fr := insN n st.fr } := Quiet.get
    refine ⟨rfl, q.fn.trans (Fn.set _ n _ _ hc), fun B F ρ own w a b s ha hb => ?_⟩
    have s1 := s.of_quiet q
    have hcv := den_cells hb
    have hpl := plainL_den hvs hcv
    obtain ⟨e, he, hat⟩ := s1.li.at_ n _ (s1.log n (mem_ins.2 (.inl rfl))) hc
    have hv : VecAt (colsF cs) len t' cs.length e (own n) w := hat
    simp only [den, he] at ha
    split at ha
    · next hlt =>
      simp only [Option.some.injEq] at ha
      subst ha
      obtain ⟨w', hr, hm, hat'⟩ := hv.write (P := P) (i := i) (j := j) (us := vs) (by rw [← hv.1]; exact hlt) hu1 hw3
      have hat2 : VecAt (colsF cs') len t' cs'.length e (own n) w' := by
        rw [hu2, show colsF cs' = fun m => if m = i then spliceV (colsF cs i) j vs else colsF cs m from funext hu3]
        exact hat'
      refine ⟨_, _, w', ?_, Tr.of_quiet q (Tr.set s1 hc he (own n) hm (show CAt repAt P ρ B e (own n) (.rep (.vec cs' len t')) w' from hat2) (fun b hb => .inl hb))⟩
      simp only [Instr.storeAt, Instr.sureAddr, storeVar, Sem.run_bind, Sem.run_pure, Result.andThen_ok, szT_run hk w, Sem.run_ite]
      rw [if_neg (by rw [← Array.length_toList, hpl]; omega), hpl, hv.2.1]
      exact hr
    · cases ha
  · exact (fail_ok.1 h6).elim
end
end Go.Proofs.Ytjediiajmnlonaa
