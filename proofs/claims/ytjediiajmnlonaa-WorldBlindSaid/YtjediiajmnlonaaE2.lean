/- The executor's memory and the machine's: what it means that one stands for the other, and that a piece of code turns the one as it turns the other. No condition. -/
import Derived.Test.YtjediiajmnlonaaE1
namespace Go.Proofs.Ytjediiajmnlonaa

def Names.le (ρ ρ' : Names) : Prop := ∀ n e, ρ n = some e → ρ' n = some e
theorem Names.le.refl (ρ : Names) : ρ.le ρ := fun _ _ h => h
theorem Names.le.trans {ρ ρ' ρ'' : Names} (h : ρ.le ρ') (k : ρ'.le ρ'') : ρ.le ρ'' := fun n e x => k n e (h n e x)

mutual
theorem den_mono {ρ ρ' : Names} (h : ρ.le ρ') : ∀ (s : SV) (x : Value), den ρ s = some x → den ρ' s = some x
  | .v _, _, hx => hx
  | .ptr n off, x, hx => by
    simp only [den, Option.map_eq_some_iff] at hx ⊢
    obtain ⟨e, he, hx⟩ := hx
    exact ⟨e, h n e he, hx⟩
  | .sl n off idx len, x, hx => by
    simp only [den, Option.map_eq_some_iff] at hx ⊢
    obtain ⟨e, he, hx⟩ := hx
    exact ⟨e, h n e he, hx⟩
  | .slE n, x, hx => by
    simp only [den, Option.map_eq_some_iff] at hx ⊢
    obtain ⟨e, he, hx⟩ := hx
    exact ⟨e, h n e he, hx⟩
  | .tptr n i j, x, hx => by
    simp only [den] at hx ⊢
    cases hn : ρ n with
    | none => rw [hn] at hx; cases hx
    | some e =>
      rw [hn] at hx
      rw [h n e hn]
      exact hx
  | .tsl n len, x, hx => by
    simp only [den, Option.map_eq_some_iff] at hx ⊢
    obtain ⟨e, he, hx⟩ := hx
    exact ⟨e, h n e he, hx⟩
  | .mp n, x, hx => by
    simp only [den, Option.map_eq_some_iff] at hx ⊢
    obtain ⟨e, he, hx⟩ := hx
    exact ⟨e, h n e he, hx⟩
  | .ifc t y, x, hx => by
    simp only [den, Option.map_eq_some_iff] at hx ⊢
    obtain ⟨e, he, hx⟩ := hx
    exact ⟨e, den_mono h y e he, hx⟩
  | .agg l, x, hx => by
    simp only [den, Option.map_eq_some_iff] at hx ⊢
    obtain ⟨e, he, hx⟩ := hx
    exact ⟨e, denL_mono h l e he, hx⟩
  | .tup l, x, hx => by
    simp only [den, Option.map_eq_some_iff] at hx ⊢
    obtain ⟨e, he, hx⟩ := hx
    exact ⟨e, denL_mono h l e he, hx⟩
  | .clo fn f c, x, hx => by
    simp only [den] at hx ⊢
    cases h1 : denL ρ f with
    | none => rw [h1] at hx; cases hx
    | some a =>
      cases h2 : denL ρ c with
      | none => rw [h1, h2] at hx; cases hx
      | some b =>
        rw [h1, h2] at hx
        rw [denL_mono h f a h1, denL_mono h c b h2]
        exact hx
theorem denL_mono {ρ ρ' : Names} (h : ρ.le ρ') : ∀ (l : List SV) (x : List Value), denL ρ l = some x → denL ρ' l = some x
  | [], _, hx => hx
  | s :: l, x, hx => by
    simp only [denL] at hx ⊢
    cases h1 : den ρ s with
    | none => rw [h1] at hx; cases hx
    | some a =>
      cases h2 : denL ρ l with
      | none => rw [h1, h2] at hx; cases hx
      | some b =>
        rw [h1, h2] at hx
        rw [den_mono h s a h1, denL_mono h l b h2]
        exact hx
end

section
variable {ρ : Names}
theorem denL_cons {s : SV} {l : List SV} {vs : List Value} : denL ρ (s :: l) = some vs ↔ ∃ a b, den ρ s = some a ∧ denL ρ l = some b ∧ vs = a :: b := by
  simp only [denL]
  cases h1 : den ρ s <;> cases h2 : denL ρ l <;> simp [eq_comm]
theorem denL_length : ∀ {l : List SV} {vs : List Value}, denL ρ l = some vs → vs.length = l.length
  | [], vs, h => by simp only [denL, Option.some.injEq] at h; subst h; rfl
  | s :: l, vs, h => by
    obtain ⟨a, b, _, hb, rfl⟩ := denL_cons.1 h
    simp [denL_length hb]
theorem denL_append : ∀ {l m : List SV} {vs : List Value}, denL ρ (l ++ m) = some vs ↔ ∃ a b, denL ρ l = some a ∧ denL ρ m = some b ∧ vs = a ++ b
  | [], m, vs => by simp [denL]
  | s :: l, m, vs => by
    rw [List.cons_append, denL_cons]
    constructor
    · rintro ⟨a, b, h1, h2, rfl⟩
      obtain ⟨c, d, h3, h4, rfl⟩ := denL_append.1 h2
      exact ⟨a :: c, d, denL_cons.2 ⟨a, c, h1, h3, rfl⟩, h4, rfl⟩
    · rintro ⟨a, b, h1, h2, rfl⟩
      obtain ⟨c, d, h3, h4, rfl⟩ := denL_cons.1 h1
      exact ⟨c, d ++ b, h3, denL_append.2 ⟨d, b, h4, h2, rfl⟩, rfl⟩
theorem denL_take {l : List SV} {vs : List Value} (h : denL ρ l = some vs) (k : Nat) : denL ρ (l.take k) = some (vs.take k) := by
  rw [← List.take_append_drop k l, denL_append] at h
  obtain ⟨a, b, h1, h2, rfl⟩ := h
  rw [h1]
  congr 1
  have := denL_length h1
  rw [List.take_append]
  simp only [List.length_take] at this
  have hl := denL_length h2
  simp only [List.length_drop] at hl
  rw [List.take_of_length_le (by omega)]
  have : b.take (k - a.length) = [] := by
    rcases Nat.lt_or_ge k l.length with hk | hk
    · have : k - a.length = 0 := by omega
      rw [this, List.take_zero]
    · have : b = [] := List.eq_nil_of_length_eq_zero (by omega)
      rw [this, List.take_nil]
  rw [this, List.append_nil]
theorem denL_drop {l : List SV} {vs : List Value} (h : denL ρ l = some vs) (k : Nat) : denL ρ (l.drop k) = some (vs.drop k) := by
  have h' := h
  rw [← List.take_append_drop k l, denL_append] at h
  obtain ⟨a, b, h1, h2, rfl⟩ := h
  rw [h2]
  congr 1
  have h3 := denL_take h' k
  rw [h1] at h3
  injection h3 with h3
  have := List.take_append_drop k (a ++ b)
  rw [← h3] at this
  exact (List.append_cancel_left this).symm
theorem denL_get {l : List SV} {vs : List Value} (h : denL ρ l = some vs) {i : Nat} {s : SV} (hs : l[i]? = some s) : ∃ x, den ρ s = some x ∧ vs[i]? = some x := by
  induction l generalizing vs i with
  | nil => simp at hs
  | cons y l ih =>
    obtain ⟨a, b, h1, h2, rfl⟩ := denL_cons.1 h
    cases i with
    | zero =>
      simp only [List.getElem?_cons_zero, Option.some.injEq] at hs
      subst hs
      exact ⟨a, h1, rfl⟩
    | succ i => exact ih h2 (by simpa using hs)
theorem denL_vs (l : List Value) : denL ρ (l.map .v) = some l := by
  induction l with
  | nil => rfl
  | cons x l ih => simp only [List.map_cons]; exact denL_cons.2 ⟨x, l, rfl, ih, rfl⟩
theorem den_agg {l : List SV} {x : Value} : den ρ (.agg l) = some x ↔ ∃ vs, denL ρ l = some vs ∧ x = .agg vs.toArray := by
  simp only [den, Option.map_eq_some_iff]
  constructor
  · rintro ⟨a, h, rfl⟩; exact ⟨a, h, rfl⟩
  · rintro ⟨a, h, rfl⟩; exact ⟨a, h, rfl⟩
theorem den_cells {s : SV} {x : Value} (h : den ρ s = some x) : denL ρ s.cells = some x.cells.toList := by
  cases s with
  | agg l =>
    obtain ⟨vs, hv, rfl⟩ := den_agg.1 h
    simpa [SV.cells, Value.cells] using hv
  | v y =>
    simp only [den, Option.some.injEq] at h
    subst h
    cases y <;> simp only [SV.cells, Value.cells] <;> first | exact denL_vs _ | rfl
  | ptr n off =>
    have h' := h
    simp only [den, Option.map_eq_some_iff] at h'
    obtain ⟨e, _, rfl⟩ := h'
    simp [SV.cells, denL, h, Value.cells]
  | sl n off idx len =>
    have h' := h
    simp only [den, Option.map_eq_some_iff] at h'
    obtain ⟨e, _, rfl⟩ := h'
    simp [SV.cells, denL, h, Value.cells]
  | mp n =>
    have h' := h
    simp only [den, Option.map_eq_some_iff] at h'
    obtain ⟨e, _, rfl⟩ := h'
    simp [SV.cells, denL, h, Value.cells]
  | tptr n i j =>
    have h' := h
    simp only [den] at h'
    split at h' <;> try cases h'
    split at h' <;> cases h'
    simp [SV.cells, denL, h, Value.cells]
  | ifc t y =>
    have h' := h
    simp only [den, Option.map_eq_some_iff] at h'
    obtain ⟨e, _, rfl⟩ := h'
    simp [SV.cells, denL, h, Value.cells]
  | tup l =>
    have h' := h
    simp only [den, Option.map_eq_some_iff] at h'
    obtain ⟨e, _, rfl⟩ := h'
    simp [SV.cells, denL, h, Value.cells]
  | clo fn f c =>
    have h' := h
    simp only [den] at h'
    split at h' <;> try cases h'
    simp [SV.cells, denL, h, Value.cells]
  | slE n =>
    have h' := h
    simp only [den, Option.map_eq_some_iff] at h'
    obtain ⟨e, _, rfl⟩ := h'
    simp [SV.cells, denL, h, Value.cells]
  | tsl n len =>
    have h' := h
    simp only [den, Option.map_eq_some_iff] at h'
    obtain ⟨e, _, rfl⟩ := h'
    simp [SV.cells, denL, h, Value.cells]
end

/-- w' is w, but for the blocks of T and for new ones. -/
structure ModP (T : Nat → Prop) (w w' : World) : Prop where
  os : w'.os = w.os
  tape : w'.tape = w.tape
  output : w'.output = w.output
  size : w.heap.size ≤ w'.heap.size
  block : ∀ k, k < w.heap.size → ¬ T k → w'.heap[k]? = w.heap[k]?
section
variable {S T : Nat → Prop} {w w' w'' : World}
theorem ModP.refl (T : Nat → Prop) (w : World) : ModP T w w := ⟨rfl, rfl, rfl, Nat.le_refl _, fun _ _ _ => rfl⟩
theorem ModP.trans (h : ModP S w w') (k : ModP T w' w'') (hT : ∀ b, b < w.heap.size → T b → S b) : ModP S w w'' :=
  ⟨k.os.trans h.os, k.tape.trans h.tape, k.output.trans h.output, Nat.le_trans h.size k.size, fun x hx hn => (k.block x (Nat.lt_of_lt_of_le hx h.size) (fun ht => hn (hT x hx ht))).trans (h.block x hx hn)⟩
theorem ModP.mono (h : ModP S w w') (hT : ∀ b, b < w.heap.size → S b → T b) : ModP T w w' := ⟨h.os, h.tape, h.output, h.size, fun x hx hn => h.block x hx (fun hs => hn (hT x hx hs))⟩
theorem ModP.of_mod {L : List Nat} (h : Mod L w w') : ModP (fun b => b ∈ L) w w' := ⟨h.os, h.tape, h.output, h.size, h.block⟩
theorem ModP.mod {L : List Nat} (h : ModP T w w') (hT : ∀ b, b < w.heap.size → T b → b ∈ L) : Mod L w w' := ⟨h.os, h.tape, h.output, h.size, fun x hx hn => h.block x hx (fun hs => hn (hT x hx hs))⟩
theorem ModP.drew (w : World) : ModP T w { w with drawn := w.drawn + 1 } := ⟨rfl, rfl, rfl, Nat.le_refl _, fun _ _ _ => rfl⟩
end

/-- What a known structure is, in the machine's memory: where it lies and all its blocks. -/
structure RepAt (R : Type) where
  At : Nat → R → Spot → List Nat → World → Prop
  stable : ∀ {B r e own T w w'}, At B r e own w → ModP T w w' → (∀ x ∈ own, ¬ T x) → (∀ x, T x → B ≤ x) → At B r e own w'

section
variable {R : Type} (A : RepAt R) (P : Program)
def CAt (ρ : Names) (B : Nat) (e : Spot) (own : List Nat) : Chunk R → World → Prop
  | .row l t, w => own = [e.b] ∧ ∃ cs vs, w.heap[e.b]? = some (.cells cs t (0, 0)) ∧ denL ρ l = some vs ∧ (∀ i, i < vs.length → cs[e.off + i]? = vs[i]?) ∧ vs.length ≤ e.cap * P.cellsOf t ∧ e.off + e.cap * P.cellsOf t ≤ cs.size
  | .tab f len t, w => own = [] ∧ e.len = len ∧ e.sz = P.cellsOf t ∧ (0 < len → e.ad = some ⟨e.b, e.off, none⟩ ∧ e.b < B ∧ e.b < w.heap.size) ∧
      ∀ i, i < len → ∃ vs, denL ρ (f i) = some vs ∧ vs.length = e.sz ∧ ∀ j, j < e.sz → w.cell? ⟨e.b, e.off + i * e.sz + j, none⟩ = vs[j]?
  | .emp, _ => own = []
  | .rep r, w => A.At B r e own w

/-- The names F stand for what the memory holds. -/
structure LI (B : Nat) (ρ : Names) (own : Nat → List Nat) (hp : List (Nat × Chunk R)) (F : Nat → Prop) (w : World) : Prop where
  at_ : ∀ n c, F n → hget n hp = some c → ∃ e, ρ n = some e ∧ CAt A P ρ B e (own n) c w
  dis : ∀ n m c d, F n → F m → n ≠ m → hget n hp = some c → hget m hp = some d → ∀ b ∈ own n, b ∉ own m
  low : ∀ n c, F n → hget n hp = some c → ∀ b ∈ own n, B ≤ b ∧ b < w.heap.size

variable {A P}
theorem CAt.stable {ρ ρ' : Names} {B : Nat} {e : Spot} {own : List Nat} {c : Chunk R} {T : Nat → Prop} {w w' : World} (h : CAt A P ρ B e own c w) (hle : ρ.le ρ') (hm : ModP T w w') (hT : ∀ x ∈ own, ¬ T x) (hB : ∀ x, T x → B ≤ x)
    : CAt A P ρ' B e own c w' := by
  cases c with
  | row l t =>
    obtain ⟨h1, cs, vs, h2, h3, h4, h5⟩ := h
    refine ⟨h1, cs, vs, ?_, denL_mono hle _ _ h3, h4, h5⟩
    rw [hm.block e.b (heap_lt h2) (hT _ (by rw [h1]; simp))]
    exact h2
  | tab f len t =>
    obtain ⟨h1, h2, h3, h4, h5⟩ := h
    refine ⟨h1, h2, h3, fun hl => ?_, fun i hi => ?_⟩
    · obtain ⟨h6, h7, h8⟩ := h4 hl
      exact ⟨h6, h7, Nat.lt_of_lt_of_le h8 hm.size⟩
    · obtain ⟨h6, h7, h8⟩ := h4 (by omega)
      obtain ⟨vs, h9, h10, h11⟩ := h5 i hi
      refine ⟨vs, denL_mono hle _ _ h9, h10, fun j hj => ?_⟩
      rw [← h11 j hj]
      exact World.cell?_of_block (w := w) (hm.block e.b h8 (fun ht => by have := hB _ ht; omega))
  | emp => exact h
  | rep r => exact A.stable h hm hT hB

theorem LI.sub {B : Nat} {ρ : Names} {own : Nat → List Nat} {hp : List (Nat × Chunk R)} {F F' : Nat → Prop} {w : World} (h : LI A P B ρ own hp F w) (hF : ∀ n, F' n → F n) : LI A P B ρ own hp F' w :=
  ⟨fun n c hn hc => h.at_ n c (hF n hn) hc, fun n m c d hn hm => h.dis n m c d (hF n hn) (hF m hm), fun n c hn => h.low n c (hF n hn)⟩

/-- Names X may have changed. -/
theorem LI.step {B : Nat} {ρ ρ' : Names} {own own' : Nat → List Nat} {hp hp' : List (Nat × Chunk R)} {F F' X T : Nat → Prop} {w w' : World} (h : LI A P B ρ own hp F w) (hm : ModP T w w') (hle : ρ.le ρ')
    (hT : ∀ b, T b → ∃ n c, X n ∧ F n ∧ hget n hp = some c ∧ b ∈ own n)
    (same : ∀ n c, F' n → ¬ X n → hget n hp' = some c → F n ∧ hget n hp = some c ∧ own' n = own n)
    (new : ∀ n c, F' n → X n → hget n hp' = some c → ∃ e, ρ' n = some e ∧ CAt A P ρ' B e (own' n) c w')
    (pool : ∀ n c, F' n → X n → hget n hp' = some c → ∀ b ∈ own' n, b < w'.heap.size ∧ B ≤ b ∧ (w.heap.size ≤ b ∨ ∃ m c, X m ∧ F m ∧ hget m hp = some c ∧ b ∈ own m))
    (dis : ∀ n m c d, F' n → F' m → X n → X m → n ≠ m → hget n hp' = some c → hget m hp' = some d → ∀ b ∈ own' n, b ∉ own' m) : LI A P B ρ' own' hp' F' w' := by
  have hTB : ∀ x, T x → B ≤ x := fun x hx => by
    obtain ⟨n, c, _, h1, h2, h3⟩ := hT x hx
    exact (h.low n c h1 h2 x h3).1
  refine ⟨fun n c hn hc => ?_, fun n m c d hn hm' hne hc hd b hb hb' => ?_, fun n c hn hc b hb => ?_⟩
  · by_cases hX : X n
    · exact new n c hn hX hc
    · obtain ⟨h1, h2, h3⟩ := same n c hn hX hc
      obtain ⟨e, h4, h5⟩ := h.at_ n c h1 h2
      refine ⟨e, hle n e h4, ?_⟩
      rw [h3]
      refine h5.stable hle hm (fun x hx ht => ?_) hTB
      obtain ⟨m, d, g1, g2, g3, g4⟩ := hT x ht
      exact h.dis n m c d h1 g2 (fun e => hX (e ▸ g1)) h2 g3 x hx g4
  · by_cases hX : X n <;> by_cases hY : X m
    · exact dis n m c d hn hm' hX hY hne hc hd b hb hb'
    · obtain ⟨h1, h2, h3⟩ := same m d hm' hY hd
      rw [h3] at hb'
      rcases (pool n c hn hX hc b hb).2.2 with h4 | ⟨k, ck, g1, g2, g3, g4⟩
      · have := (h.low m d h1 h2 b hb').2
        omega
      · exact h.dis k m ck d g2 h1 (fun e => hY (e ▸ g1)) g3 h2 b g4 hb'
    · obtain ⟨h1, h2, h3⟩ := same n c hn hX hc
      rw [h3] at hb
      rcases (pool m d hm' hY hd b hb').2.2 with h4 | ⟨k, ck, g1, g2, g3, g4⟩
      · have := (h.low n c h1 h2 b hb).2
        omega
      · exact h.dis k n ck c g2 h1 (fun e => hX (e ▸ g1)) g3 h2 b g4 hb
    · obtain ⟨h1, h2, h3⟩ := same n c hn hX hc
      obtain ⟨h4, h5, h6⟩ := same m d hm' hY hd
      rw [h3] at hb
      rw [h6] at hb'
      exact h.dis n m c d h1 h4 hne h2 h5 b hb hb'
  · by_cases hX : X n
    · have := pool n c hn hX hc b hb
      exact ⟨this.2.1, this.1⟩
    · obtain ⟨h1, h2, h3⟩ := same n c hn hX hc
      rw [h3] at hb
      have := h.low n c h1 h2 b hb
      exact ⟨this.1, Nat.lt_of_lt_of_le this.2 hm.size⟩
end
end Go.Proofs.Ytjediiajmnlonaa
