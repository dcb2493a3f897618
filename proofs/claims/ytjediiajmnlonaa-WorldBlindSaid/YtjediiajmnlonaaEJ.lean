/- A region whose order is open, as a whole. Condition: the program follows the looser reading of Go's order. -/
import Derived.Test.YtjediiajmnlonaaEI
namespace Go.Proofs.Ytjediiajmnlonaa

section
variable {R : Type} {A : RepAt R} {P : Program} {call : Hk R} {ops : Array Oper} {sz n : Nat} {E : Nat → Env} {S T : Nat → St R} {V : Nat → SV} {L : Nat → Log}
variable {B : Nat} {F : Nat → Prop} {ρ0 ρ : Names} {own0 own : Nat → List Nat} {w0 w : World} {a0 a : Act} {D : Nat → Bool}

theorem Ctx.cover (c : Ctx A P call ops sz n E S T V L) {m : Nat} : ∀ {k}, k ≤ n → newN (S 0) (S k) m → ∃ i, i < k ∧ nw S T i m
  | 0, _, h => by unfold newN at h; omega
  | k + 1, hk, h => by
    by_cases h1 : m < (S k).nx
    · obtain ⟨i, h2, h3⟩ := c.cover (k := k) (by omega) ⟨h.1, h1⟩
      exact ⟨i, by omega, h3⟩
    · refine ⟨k, by omega, ⟨by omega, ?_⟩⟩
      have := h.2
      rw [(c.next (by omega)).2.1] at this
      exact this
theorem Ctx.within (c : Ctx A P call ops sz n E S T V L) {m i : Nat} (hi : i < n) (h : nw S T i m) : newN (S 0) (S n) m := by
  have h1 := (c.fn (i := 0) (j := i) (Nat.zero_le _) (Nat.le_of_lt hi)).nx
  have h2 := (c.fn (i := i + 1) (j := n) hi (Nat.le_refl _)).nx
  rw [(c.next hi).2.1] at h2
  have h3 := h.1
  have h4 := h.2
  exact ⟨by omega, by omega⟩

/-- At the end. -/
theorem RI.done (c : Ctx A P call ops sz n E S T V L) (h : RI A P B F (fun m => m ∈ (S n).wr) sz n E S T V L ρ0 own0 w0 a0 D ρ own a w) (hall : ∀ i, i < n → D i = true) : Tr A P B F (S 0) (S n) ρ0 own0 w0 ρ own w ∧ EnvR ρ (E n) a := by
  have hw : ∀ {m i}, i < n → m ∈ (T i).wr → m ∈ (S n).wr := fun {m i} hi hm => (c.fn (i := i + 1) (j := n) hi (Nat.le_refl _)).wr m (by rw [(c.next hi).2.2.2.1]; exact mem_uni.2 (.inl hm))
  have hv : ∀ m, view (hget m (S 0).hp) (fun i => hget m (T i).hp) (fun j => D j && tch L m j) n = hget m (S n).hp := fun m =>
    view_at (X := fun k => hget m (S k).hp) rfl (fun k hk => c.hpStep m hk) (Nat.le_refl n) (fun j hj _ => hall j hj) (fun j h1 h2 _ => by omega)
  refine ⟨⟨h.le, fun m hm => h.out m (fun i hi _ hx => hm (c.within hi hx)), fun m hm hnw => h.same m (fun i hi _ => ?_), fun m hm b hb => ?_, ?_, h.mod.mono fun b _ ⟨k, h1, h2, h3⟩ => ⟨k, h1, fun hx => by have := hx.1; omega, h3⟩⟩, fun t s hs => ?_⟩
  · cases ht : tch L m i with
    | false => rfl
    | true =>
      rcases (c.tch_iff hi).1 ht with h1 | h1
      · exact absurd (hw hi h1) hnw
      · exact absurd (c.within hi h1) hm
  · by_cases hex : ∃ i, i < n ∧ tch L m i = true
    · obtain ⟨i, hi, ht⟩ := hex
      rcases h.pool m i hi (hall i hi) ht b hb with h1 | ⟨k, h1, h2, h3⟩
      · exact .inl h1
      · exact .inr ⟨k, h1, fun hx => by have := hx.1; omega, h3⟩
    · have hno : ∀ i, i < n → D i = true → tch L m i = false := fun i hi _ => by
        cases ht : tch L m i with
        | false => rfl
        | true => exact absurd ⟨i, hi, ht⟩ hex
      have hnn : ¬ newN (S 0) (S n) m := fun hx => by
        obtain ⟨i, hi, hni⟩ := c.cover (Nat.le_refl n) hx
        exact hex ⟨i, hi, (c.tch_iff hi).2 (.inr hni)⟩
      rw [h.same m hno] at hb
      exact .inr ⟨m, hm.resolve_left hnn, hnn, hb⟩
  · have hget_eq : ∀ m, hget m (mkL (S n).nx fun m => view (hget m (S 0).hp) (fun i => hget m (T i).hp) (fun j => D j && tch L m j) n) = hget m (S n).hp := fun m => by
      rw [hget_mkL, hv m]
      split
      · rfl
      · rw [(c.wfS (Nat.le_refl n)).top m (by omega)]
    have hF : ∀ m, F m ∨ newN (S 0) (S n) m → F m ∨ ∃ i, i < n ∧ D i = true ∧ nw S T i m := fun m hm => hm.imp_right fun hx => by
      obtain ⟨i, hi, hni⟩ := c.cover (Nat.le_refl n) hx
      exact ⟨i, hi, hall i hi, hni⟩
    exact ⟨fun m x hm hx => h.li.at_ m x (hF m hm) (by rw [hget_eq]; exact hx), fun m k x y hm hk hne hx hy => h.li.dis m k x y (hF m hm) (hF k hk) hne (by rw [hget_eq]; exact hx) (by rw [hget_eq]; exact hy),
      fun m x hm hx => h.li.low m x (hF m hm) (by rw [hget_eq]; exact hx)⟩
  · refine h.env t s ?_
    rw [view_at (X := fun k => elook t (E k)) rfl (fun k hk => c.envStep t hk) (Nat.le_refl n) (fun j hj _ => hall j hj) (fun j h1 h2 _ => by omega)]
    exact hs

/-- At the beginning. -/
theorem RI.start (hli : LI A P B ρ0 own0 (S 0).hp F w0) (he : EnvR ρ0 (E 0) a0) (hsz : a0.tmps.size = sz) {WR : Nat → Prop} : RI A P B F WR sz n E S T V L ρ0 own0 w0 a0 (fun _ => false) ρ0 own0 a0 { w0 with drawn := w0.drawn + 1 } := by
  have hv : ∀ {α : Type} (b : α) (r : Nat → α) (p : Nat → Bool), view b r (fun j => false && p j) n = b := fun b r p =>
    view_above (base := b) (res := r) (p := fun j => false && p j) (n := n) (i := 0) (Nat.zero_le _) (fun _ _ _ => rfl)
  have hget_eq : ∀ m x, hget m (mkL (S n).nx fun m => view (hget m (S 0).hp) (fun i => hget m (T i).hp) (fun j => false && tch L m j) n) = some x → hget m (S 0).hp = some x := fun m x => by
    rw [hget_mkL, hv]
    split
    · exact id
    · exact fun h => by cases h
  have hmod : ModP (fun _ => False) w0 { w0 with drawn := w0.drawn + 1 } := ⟨rfl, rfl, rfl, Nat.le_refl _, fun _ _ _ => rfl⟩
  refine ⟨Names.le.refl _, fun _ _ => rfl, fun _ _ => rfl, (fun m i _ hD => by cases hD), ?_, hmod.mono (fun _ _ h => h.elim), fun t s hs => he t s (by rw [hv] at hs; exact hs), hsz, rfl⟩
  have hF : ∀ m, (F m ∨ ∃ i, i < n ∧ false = true ∧ nw S T i m) → F m := fun m hm => hm.resolve_right fun ⟨_, _, h, _⟩ => by cases h
  refine ⟨fun m x hm hx => ?_, fun m k x y hm hk hne hx hy => hli.dis m k x y (hF m hm) (hF k hk) hne (hget_eq m x hx) (hget_eq k y hy), fun m x hm hx => hli.low m x (hF m hm) (hget_eq m x hx)⟩
  obtain ⟨e, h1, h2⟩ := hli.at_ m x (hF m hm) (hget_eq m x hx)
  exact ⟨e, h1, h2.stable (Names.le.refl _) hmod (fun _ _ h => h) (fun _ h => h.elim)⟩

theorem filter_lessX {l : List Nat} {p q : Nat → Bool} {i : Nat} (hn : l.Nodup) (hi : i ∈ l) (hp : p i = true) (hq : q i = false) (h : ∀ j, j ≠ i → q j = p j) : (l.filter p).length = (l.filter q).length + 1 := by
  induction l with
  | nil => cases hi
  | cons x l ih =>
    rw [List.nodup_cons] at hn
    by_cases hx : x = i
    · subst hx
      have : l.filter q = l.filter p := List.filter_congr fun j hj => h j (fun e => hn.1 (e ▸ hj))
      rw [List.filter_cons_of_pos hp, List.filter_cons_of_neg (by simp [hq]), this]
      simp
    · have hi' : i ∈ l := (List.mem_cons.1 hi).resolve_left (fun e => hx e.symm)
      have := ih hn.2 hi'
      cases hpx : p x with
      | true => rw [List.filter_cons_of_pos hpx, List.filter_cons_of_pos (by rw [h x hx]; exact hpx)]; simp [this]
      | false => rw [List.filter_cons_of_neg (by simp [hpx]), List.filter_cons_of_neg (by rw [h x hx]; simp [hpx])]; exact this

theorem chain_fn (hcall : HkOK A P call) {n : Nat} (link : ∀ i, i < n → ∃ o k, Link P call ops sz k o (S i) (T i) (S (i + 1)) (E i) (E (i + 1)) (V i) (L i)) : ∀ k, k ≤ n → Fn (S 0) (S k)
  | 0, _ => Fn.refl _
  | k + 1, hk => by
    obtain ⟨o, j, h⟩ := link k (by omega)
    exact (chain_fn hcall link k (by omega)).trans (h.fn hcall).2

theorem draw_s (hm : P.follows .mixedOrders = true) (hcall : HkOK A P call) {id : Nat} {ls : List Log} {e e' : Env} {st st' : St R} (h : drawX P call ops sz ops.toList [] e st = .ok (e', ls) st') (hord : ordered (masks ops.toList []) ls = true) :
    Fn st st' ∧ ∀ B F ρ own w a, Sit A P B F st st' ρ own w → EnvR ρ e a → a.tmps.size = sz →
    ∀ (Q : Exit → Act → World → Prop), (∀ a' ρ' own' w', Tr A P B F st st' ρ own w ρ' own' w' → EnvR ρ' e' a' → a'.tmps.size = sz → a'.defers = a.defers → Q .normal a' w') → (Code.region id ops true).wp P Q a w := by
  obtain ⟨E, S, T, V, L, rfl, rfl, rfl, rfl, rfl, hlink⟩ := drawX_chain h
  have hl : ops.toList.length = ops.size := by simp
  rw [hl] at h hord ⊢
  have hlink' : ∀ i o, ops[i]? = some o → Link P call ops sz i o (S i) (T i) (S (i + 1)) (E i) (E (i + 1)) (V i) (L i) := fun i o ho => by
    have := hlink i o (by simpa using ho)
    simpa using this
  have hord' : ∀ i j, i < j → j < ops.size → clash (L i) (L j) = true → ∀ D, Closed ops.toList D → D j = true → D i = true := by
    intro i j hij hj hc D hD hDj
    obtain ⟨h1, h2⟩ := masks_ahead (l := ops.toList) (r := ops.toList) (acc := []) (fun k => by simp) (fun k m hk => by simp at hk)
    simp only [List.length_nil, Nat.zero_add, hl] at h1 h2
    rw [List.append_nil] at hord
    obtain ⟨m, h3, h4⟩ := ordered_spec (L := L) h1 hord i j hij hj hc
    have := h2 _ m h3
    rw [show ops.size - 1 - (ops.size - 1 - j) = j by omega] at this
    exact this i h4 D hD hDj
  refine ⟨chain_fn hcall (fun i hi => ⟨ops[i], i, hlink' i _ (Array.getElem?_eq_getElem hi)⟩) _ (Nat.le_refl _), fun B F ρ own w a si he hsz Q hk => ?_⟩
  have c : Ctx A P call ops sz ops.size E S T V L := ⟨hcall, rfl, hlink', si.wf, hord'⟩
  refine wp_region_any hm ?_
  have main : ∀ (fuel : Nat) (listed : Array Bool) (b : Act) (w1 : World) (ρ1 : Names) (own1 : Nat → List Nat), listed.size = ops.size → Closed ops.toList (fun j => listed.getD j false) →
      RI A P B F (fun m => m ∈ (S ops.size).wr) sz ops.size E S T V L ρ own w a (fun j => listed.getD j false) ρ1 own1 b w1 → ((List.range ops.size).filter fun i => !listed.getD i false).length ≤ fuel → wpAny P .any ops Q fuel listed b w1 := by
    intro fuel
    have allOf : ∀ {listed : Array Bool}, listed.size = ops.size → Region.ready .any ops listed = [] → ∀ i, i < ops.size → listed.getD i false = true := by
      intro listed hls hr i
      induction i using Nat.strongRecOn with
      | _ i ih =>
        intro hi
        cases hli : listed.getD i false with
        | true => rfl
        | false =>
          exfalso
          have : i ∈ Region.ready .any ops listed := by
            refine mem_ready.2 ⟨?_, ops[i], Array.getElem?_eq_getElem hi, fun ed hed hb => ?_⟩
            · have hlt : i < listed.size := by omega
              simp only [Array.getD_eq_getD_getElem?, Array.getElem?_eq_getElem hlt, Option.getD_some] at hli ⊢
              exact hli
            · have hlt := (hlink' i _ (Array.getElem?_eq_getElem hi)).edge ed hed hb
              exact ih ed.on hlt (by omega)
          rw [hr] at this
          cases this
    have fin : ∀ {listed : Array Bool} {b w1 ρ1 own1}, listed.size = ops.size → Region.ready .any ops listed = [] → RI A P B F (fun m => m ∈ (S ops.size).wr) sz ops.size E S T V L ρ own w a (fun j => listed.getD j false) ρ1 own1 b w1 → Q .normal b w1 := by
      intro listed b w1 ρ1 own1 hls hr hri
      obtain ⟨ht, hen⟩ := hri.done c (allOf hls hr)
      exact hk b ρ1 own1 w1 ht hen hri.size hri.defers
    induction fuel with
    | zero =>
      intro listed b w1 ρ1 own1 hls hcl hri hcnt
      have hr : Region.ready .any ops listed = [] := by
        rw [List.eq_nil_iff_forall_not_mem]
        intro i hi
        obtain ⟨h1, o, ho, _⟩ := mem_ready.1 hi
        have hlt : i < ops.size := (Array.getElem?_eq_some_iff.1 ho).1
        have hnil := List.eq_nil_of_length_eq_zero (Nat.le_zero.1 hcnt)
        rw [List.filter_eq_nil_iff] at hnil
        have h2 := hnil i (List.mem_range.2 hlt)
        have h3 : i < listed.size := by omega
        simp only [Array.getD_eq_getD_getElem?, Array.getElem?_eq_getElem h3, Option.getD_some] at h1 h2
        rw [h1] at h2
        exact h2 rfl
      exact ⟨hr, fin hls hr hri⟩
    | succ fuel ih =>
      intro listed b w1 ρ1 own1 hls hcl hri hcnt
      refine ⟨fun hr => fin hls hr hri, fun i hi => ?_⟩
      obtain ⟨h1, o, ho, hedge⟩ := mem_ready.1 hi
      have hlt : i < ops.size := (Array.getElem?_eq_some_iff.1 ho).1
      have h3 : i < listed.size := by omega
      have hDi : listed.getD i false = false := by
        simp only [Array.getD_eq_getD_getElem?, Array.getElem?_eq_getElem h3, Option.getD_some] at h1 ⊢
        exact h1
      have hset : ∀ j, (listed.setIfInBounds i true).getD j false = (listed.getD j false || j == i) := by
        intro j
        by_cases e : j = i
        · subst e
          simp [Array.getD_eq_getD_getElem?, h3]
        · have : (j == i) = false := by simpa using e
          rw [getD_set_ne false (fun h => e h.symm), this, Bool.or_false]
      refine hri.step c si.base (fun m h1 h2 => si.fresh m ⟨h1, h2⟩) si.log (fun m hm => hm) si.ask hlt hDi hcl (fun o' ho' => ?_) hset (fun ρ' own' a' w' hri' => ih (listed.setIfInBounds i true) a' w' ρ' own' (by simp [hls]) ?_ hri' ?_)
      · rw [ho] at ho'
        injection ho' with ho'
        subst ho'
        exact hedge
      · intro j p hp hj ed hed hb
        simp only at hj ⊢
        rw [hset] at hj ⊢
        by_cases e : j = i
        · subst e
          have : p = o := by
            have h1 : ops[j]? = some p := by simpa using hp
            rw [ho] at h1
            injection h1 with h1
            exact h1.symm
          subst this
          rw [hedge ed hed hb]
          rfl
        · have : (j == i) = false := by simpa using e
          rw [this, Bool.or_false] at hj
          have := hcl j p hp hj ed hed hb
          simp only at this
          rw [this]
          rfl
      · have := filter_lessX (p := fun k => !listed.getD k false) (q := fun k => !(listed.setIfInBounds i true).getD k false) List.nodup_range (List.mem_range.2 hlt) (by simp [hDi]) (by simp [hset]) (fun j hj => by
          have : (j == i) = false := by simpa using hj
          simp only [hset, this, Bool.or_false])
        omega
  refine main ops.size _ a _ ρ own (by simp) (fun j p _ hj => ?_) ?_ ?_
  · exfalso
    simp only at hj
    rw [getD_replicate_false] at hj
    cases hj
  · have e : (fun j => (Array.replicate ops.size false).getD j false) = fun _ => false := by
      funext j
      exact getD_replicate_false _ j
    rw [e]
    exact RI.start si.li he hsz
  · exact Nat.le_trans (List.length_filter_le _ _) (by simp)
end
end Go.Proofs.Ytjediiajmnlonaa
