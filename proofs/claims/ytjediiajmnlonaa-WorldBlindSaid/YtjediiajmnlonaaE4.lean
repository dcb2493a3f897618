/- The executor's three ways to turn memory: a new piece, another content, a piece that goes on under a new name. No condition. -/
import Derived.Test.YtjediiajmnlonaaE3
namespace Go.Proofs.Ytjediiajmnlonaa

section
variable {R : Type} {A : RepAt R} {P : Program} {B : Nat} {F : Nat → Prop} {st st' : St R} {ρ : Names} {own : Nat → List Nat} {w w' : World}

def Names.put (ρ : Names) (n : Nat) (e : Spot) : Names := fun m => if m = n then some e else ρ m
theorem Names.put_le {n : Nat} {e : Spot} (h : ρ n = none) : ρ.le (ρ.put n e) := fun m d hm => by
  unfold Names.put
  by_cases hn : m = n
  · subst hn; rw [h] at hm; cases hm
  · simp [hn, hm]
theorem Names.put_same {n : Nat} {e : Spot} : (ρ.put n e) n = some e := by simp [Names.put]
theorem Names.put_other {n m : Nat} {e : Spot} (h : m ≠ n) : (ρ.put n e) m = ρ m := by simp [Names.put, h]
def ownPut (own : Nat → List Nat) (n : Nat) (l : List Nat) : Nat → List Nat := fun m => if m = n then l else own m
theorem ownPut_same {n : Nat} {l : List Nat} : ownPut own n l n = l := by simp [ownPut]
theorem ownPut_other {n m : Nat} {l : List Nat} (h : m ≠ n) : ownPut own n l m = own m := by simp [ownPut, h]

def St.new (st : St R) (c : Chunk R) : St R := { st with hp := (st.nx, c) :: st.hp, nx := st.nx + 1 }
def St.set (st : St R) (n : Nat) (c : Chunk R) : St R := { st with hp := hset n c st.hp, fr := insN n st.fr, wr := insN n st.wr }
def St.move (st : St R) (n : Nat) (c : Chunk R) : St R := { st with hp := (st.nx, c) :: hdel n st.hp, nx := st.nx + 1, fr := insN n st.fr, wr := insN n st.wr }

theorem Fn.new (st : St R) (c : Chunk R) : Fn st (st.new c) where
  nx := Nat.le_succ _
  fr _ h := h
  wr _ h := h
  ask _ h := h
  hp n _ hl := by simp only [St.new]; rw [hget_cons, if_neg (by omega)]
  wf hw := ⟨fun n hn => ⟨(hw.wr n hn).1, Nat.lt_succ_of_lt (hw.wr n hn).2⟩, fun n hn => by
    simp only [St.new] at hn ⊢
    rw [hget_cons, if_neg (by omega)]
    exact hw.top n (by omega)⟩
  al _ h := .inl h
theorem Fn.set (st : St R) (n : Nat) (c d : Chunk R) (hd : hget n st.hp = some d) : Fn st (st.set n c) where
  nx := Nat.le_refl _
  fr _ h := mem_ins.2 (.inr h)
  wr _ h := mem_ins.2 (.inr h)
  ask _ h := h
  hp m hm _ := by
    simp only [St.set] at hm ⊢
    rw [mem_ins, not_or] at hm
    rw [hget_set, if_neg hm.1]
  wf hw := ⟨fun m hm => by
    simp only [St.set] at hm ⊢
    rcases mem_ins.1 hm with rfl | hm
    · exact ⟨mem_ins.2 (.inl rfl), hw.lt hd⟩
    · exact ⟨mem_ins.2 (.inr (hw.wr m hm).1), (hw.wr m hm).2⟩, fun m hm => by
    simp only [St.set] at hm ⊢
    rw [hget_set, hw.top m hm]
    split
    · next e => subst e; rw [hw.top m hm]; rfl
    · rfl⟩
  al m hm := by
    simp only [St.set] at hm
    rcases mem_ins.1 hm with rfl | hm
    · exact .inr (.inr ⟨d, hd⟩)
    · exact .inl hm
theorem Fn.move (st : St R) (n : Nat) (c d : Chunk R) (hd : hget n st.hp = some d) : Fn st (st.move n c) where
  nx := Nat.le_succ _
  fr _ h := mem_ins.2 (.inr h)
  wr _ h := mem_ins.2 (.inr h)
  ask _ h := h
  hp m hm hl := by
    simp only [St.move] at hm ⊢
    rw [mem_ins, not_or] at hm
    rw [hget_cons, if_neg (by omega), hget_del, if_neg hm.1]
  wf hw := ⟨fun m hm => by
    simp only [St.move] at hm ⊢
    rcases mem_ins.1 hm with rfl | hm
    · exact ⟨mem_ins.2 (.inl rfl), Nat.lt_succ_of_lt (hw.lt hd)⟩
    · exact ⟨mem_ins.2 (.inr (hw.wr m hm).1), Nat.lt_succ_of_lt (hw.wr m hm).2⟩, fun m hm => by
    simp only [St.move] at hm ⊢
    rw [hget_cons, if_neg (by omega), hget_del, hw.top m (by omega)]
    split <;> rfl⟩
  al m hm := by
    simp only [St.move] at hm
    rcases mem_ins.1 hm with rfl | hm
    · exact .inr (.inr ⟨d, hd⟩)
    · exact .inl hm

theorem newN_new {c : Chunk R} {n : Nat} : newN st (st.new c) n ↔ n = st.nx := by unfold newN St.new; simp only; omega
theorem newN_set {c : Chunk R} {k n : Nat} : ¬ newN st (st.set k c) n := by unfold newN St.set; simp only; omega
theorem newN_move {c : Chunk R} {k n : Nat} : newN st (st.move k c) n ↔ n = st.nx := by unfold newN St.move; simp only; omega

/-- A new piece. -/
theorem Tr.new {c : Chunk R} (s : Sit A P B F st (st.new c) ρ own w) (e : Spot) (own0 : List Nat) (hm : ModP (fun _ => False) w w') (hc : CAt A P (ρ.put st.nx e) B e own0 c w') (ho : ∀ b ∈ own0, w.heap.size ≤ b ∧ b < w'.heap.size) :
    Tr A P B F st (st.new c) ρ own w (ρ.put st.nx e) (ownPut own st.nx own0) w' := by
  have hle : ρ.le (ρ.put st.nx e) := Names.put_le (s.fresh st.nx (newN_new.2 rfl))
  refine ⟨hle, fun n hn => Names.put_other (fun h => hn (newN_new.2 h)), fun n hn _ => ownPut_other (fun h => hn (newN_new.2 h)), fun n hn b hb => ?_, ?_, hm.mono (fun _ _ h => h.elim)⟩
  · rw [newN_new] at hn
    by_cases h : n = st.nx
    · subst h
      rw [ownPut_same] at hb
      exact .inl (ho b hb).1
    · rw [ownPut_other h] at hb
      exact .inr ⟨n, hn.resolve_left h, fun hx => h (newN_new.1 hx), hb⟩
  · refine s.li.step (X := fun n => n = st.nx) hm hle (fun b hb => hb.elim) (fun n d hn hX hd => ?_) (fun n d _ hX hd => ?_) (fun n d _ hX _ b hb => ?_) (fun n m _ _ _ _ h1 h2 hne => absurd (h1.trans h2.symm) hne)
    · rw [newN_new] at hn
      simp only [St.new] at hd
      rw [hget_cons, if_neg hX] at hd
      exact ⟨hn.resolve_right hX, hd, ownPut_other hX⟩
    · subst hX
      simp only [St.new] at hd
      rw [hget_cons, if_pos rfl] at hd
      injection hd with hd
      subst hd
      exact ⟨e, Names.put_same, by rw [ownPut_same]; exact hc⟩
    · subst hX
      rw [ownPut_same] at hb
      exact ⟨(ho b hb).2, Nat.le_trans s.base (ho b hb).1, .inl (ho b hb).1⟩

/-- Another content. -/
theorem Tr.set {n : Nat} {c d : Chunk R} {e : Spot} (s : Sit A P B F st (st.set n c) ρ own w) (hd : hget n st.hp = some d) (he : ρ n = some e) (own0 : List Nat) (hm : ModP (fun b => b ∈ own n) w w')
    (hc : CAt A P ρ B e own0 c w') (ho : ∀ b ∈ own0, b ∈ own n ∨ (w.heap.size ≤ b ∧ b < w'.heap.size)) : Tr A P B F st (st.set n c) ρ own w ρ (ownPut own n own0) w' := by
  have hF : F n := s.log n (mem_ins.2 (.inl rfl))
  have hwr : n ∈ (st.set n c).wr := mem_ins.2 (.inl rfl)
  have hlow := fun b hb => s.li.low n d hF hd b hb
  refine ⟨Names.le.refl _, fun _ _ => rfl, fun m _ hm => ownPut_other (fun h => hm (h ▸ hwr)), fun m hmm b hb => ?_, ?_, hm.mono (fun b _ h => ⟨n, hwr, newN_set, h⟩)⟩
  · by_cases h : m = n
    · subst h
      rw [ownPut_same] at hb
      rcases ho b hb with h1 | h1
      · exact .inr ⟨m, hwr, newN_set, h1⟩
      · exact .inl h1.1
    · rw [ownPut_other h] at hb
      exact .inr ⟨m, hmm.resolve_left newN_set, newN_set, hb⟩
  · refine s.li.step (X := fun m => m = n) hm (Names.le.refl _) (fun b hb => ⟨n, d, rfl, hF, hd, hb⟩) (fun m x hx hX hx' => ?_) (fun m x _ hX hx => ?_) (fun m x _ hX _ b hb => ?_) (fun m k _ _ _ _ h1 h2 hne => absurd (h1.trans h2.symm) hne)
    · simp only [St.set] at hx'
      rw [hget_set, if_neg hX] at hx'
      exact ⟨hx.resolve_right newN_set, hx', ownPut_other hX⟩
    · subst hX
      simp only [St.set] at hx
      rw [hget_set, if_pos rfl, hd] at hx
      injection hx with hx
      subst hx
      exact ⟨e, he, by rw [ownPut_same]; exact hc⟩
    · subst hX
      rw [ownPut_same] at hb
      rcases ho b hb with h1 | h1
      · exact ⟨Nat.lt_of_lt_of_le (hlow b h1).2 hm.size, (hlow b h1).1, .inr ⟨m, d, rfl, hF, hd, h1⟩⟩
      · exact ⟨h1.2, Nat.le_trans s.base h1.1, .inl h1.1⟩

/-- A piece goes on under a new name. -/
theorem Tr.move {n : Nat} {c d : Chunk R} (s : Sit A P B F st (st.move n c) ρ own w) (hd : hget n st.hp = some d) (e : Spot) (own0 : List Nat) (hm : ModP (fun b => b ∈ own n) w w')
    (hc : CAt A P (ρ.put st.nx e) B e own0 c w') (ho : ∀ b ∈ own0, b ∈ own n ∨ (w.heap.size ≤ b ∧ b < w'.heap.size)) : Tr A P B F st (st.move n c) ρ own w (ρ.put st.nx e) (ownPut own st.nx own0) w' := by
  have hF : F n := s.log n (mem_ins.2 (.inl rfl))
  have hwr : n ∈ (st.move n c).wr := mem_ins.2 (.inl rfl)
  have hlt := s.wf.lt hd
  have hnn : ¬ newN st (st.move n c) n := fun h => by rw [newN_move] at h; omega
  have hlow := fun b hb => s.li.low n d hF hd b hb
  have hle : ρ.le (ρ.put st.nx e) := Names.put_le (s.fresh st.nx (newN_move.2 rfl))
  refine ⟨hle, fun n hn => Names.put_other (fun h => hn (newN_move.2 h)), fun n hn _ => ownPut_other (fun h => hn (newN_move.2 h)), fun m hmm b hb => ?_, ?_, hm.mono (fun b _ h => ⟨n, hwr, hnn, h⟩)⟩
  · rw [newN_move] at hmm
    by_cases h : m = st.nx
    · subst h
      rw [ownPut_same] at hb
      rcases ho b hb with h1 | h1
      · exact .inr ⟨n, hwr, hnn, h1⟩
      · exact .inl h1.1
    · rw [ownPut_other h] at hb
      exact .inr ⟨m, hmm.resolve_left h, fun hx => h (newN_move.1 hx), hb⟩
  · refine s.li.step (X := fun m => m = n ∨ m = st.nx) hm hle (fun b hb => ⟨n, d, .inl rfl, hF, hd, hb⟩) (fun m x hx hX hx' => ?_) (fun m x _ hX hx => ?_) (fun m x _ hX hx b hb => ?_) (fun m k x y _ _ h1 h2 hne hx hy => ?_)
    · rw [not_or] at hX
      simp only [St.move] at hx'
      rw [hget_cons, if_neg hX.2, hget_del, if_neg hX.1] at hx'
      exact ⟨hx.resolve_right (fun h => hX.2 (newN_move.1 h)), hx', ownPut_other hX.2⟩
    · simp only [St.move] at hx
      rw [hget_cons] at hx
      by_cases h : m = st.nx
      · subst h
        rw [if_pos rfl] at hx
        injection hx with hx
        subst hx
        exact ⟨e, Names.put_same, by rw [ownPut_same]; exact hc⟩
      · rw [if_neg h, hget_del, if_pos (hX.resolve_right h)] at hx
        cases hx
    · simp only [St.move] at hx
      rw [hget_cons] at hx
      by_cases h : m = st.nx
      · subst h
        rw [ownPut_same] at hb
        rcases ho b hb with h1 | h1
        · exact ⟨Nat.lt_of_lt_of_le (hlow b h1).2 hm.size, (hlow b h1).1, .inr ⟨n, d, .inl rfl, hF, hd, h1⟩⟩
        · exact ⟨h1.2, Nat.le_trans s.base h1.1, .inl h1.1⟩
      · rw [if_neg h, hget_del, if_pos (hX.resolve_right h)] at hx
        cases hx
    · simp only [St.move] at hx hy
      rw [hget_cons] at hx hy
      have g1 : m = st.nx := by
        by_cases h : m = st.nx
        · exact h
        · rw [if_neg h, hget_del, if_pos (h1.resolve_right h)] at hx; cases hx
      have g2 : k = st.nx := by
        by_cases h : k = st.nx
        · exact h
        · rw [if_neg h, hget_del, if_pos (h2.resolve_right h)] at hy; cases hy
      exact absurd (g1.trans g2.symm) hne
end
end Go.Proofs.Ytjediiajmnlonaa
