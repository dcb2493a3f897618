/- What the executor says of append and copy, the machine does. No condition. -/
import Derived.Test.YtjediiajmnlonaaEB
namespace Go.Proofs.Ytjediiajmnlonaa

section
variable {R : Type} {A : RepAt R} {P : Program} {B : Nat} {F : Nat → Prop} {st st1 st' : St R} {ρ ρ' : Names} {own own' : Nat → List Nat} {w w' : World}

theorem src_s {k : Nat} {x : SV} {m : Nat} {cs : List SV} (h : srcX k x st = .ok (m, cs) st') : Quiet st st' ∧ ∀ B F ρ own w a, LI A P B ρ own st.hp F w → (∀ n ∈ st'.fr, F n) → den ρ x = some a →
    ∃ ad c news, a = .slice ad m c ∧ denL ρ cs = some news ∧ news.length = m * k ∧ (∀ g, ad = some g → ∀ j u, news[j]? = some u → w.cell? (g.add j) = some u) ∧ (ad = none → m = 0) := by
  unfold srcX at h
  split at h
  · next c =>
    obtain ⟨e, rfl⟩ := ret_ok.1 h
    injection e with e1 e2
    subst e1
    subst e2
    refine ⟨Quiet.refl _, fun B F ρ own w a _ _ ha => ?_⟩
    simp only [den, Option.some.injEq] at ha
    subst ha
    exact ⟨none, c, [], rfl, rfl, by simp, (fun g hg => by cases hg), fun _ => rfl⟩
  · next n =>
    obtain ⟨c, st1, h1, h2⟩ := bind_ok.1 h
    obtain ⟨hc, rfl⟩ := getC_ok.1 h1
    split at h2
    · obtain ⟨e, rfl⟩ := ret_ok.1 h2
      injection e with e1 e2
      subst e1
      subst e2
      refine ⟨Quiet.get, fun B F ρ own w a _ _ ha => ?_⟩
      simp only [den, Option.map_eq_some_iff] at ha
      obtain ⟨e, he, rfl⟩ := ha
      exact ⟨e.ad, e.cap, [], rfl, rfl, by simp, (fun g _ j u hu => by simp at hu), fun _ => rfl⟩
    · exact (fail_ok.1 h2).elim
  · next n off idx len =>
    obtain ⟨c, st1, h1, h2⟩ := bind_ok.1 h
    obtain ⟨hc, rfl⟩ := getC_ok.1 h1
    split at h2
    · next l t0 =>
      obtain ⟨r, _, h3, h4⟩ := bind_ok.1 h2
      obtain ⟨hr, rfl⟩ := opt_ok.1 h3
      obtain ⟨e, rfl⟩ := ret_ok.1 h4
      injection e with e1 e2
      subst e1
      subst e2
      obtain ⟨rfl, hlen⟩ := cut_ok hr
      refine ⟨Quiet.get, fun B F ρ own w a hli hF ha => ?_⟩
      obtain ⟨e, he, _, cs, vs, h5, h6, h7, _⟩ := hli.at_ n _ (hF n (mem_ins.2 (.inl rfl))) hc
      simp only [den, he, Option.map_some, Option.some.injEq] at ha
      subst ha
      have hd := denL_take (denL_drop h6 off) (len * k)
      refine ⟨_, _, _, rfl, hd, by rw [denL_length hd, hlen], fun g hg j u hu => ?_, fun hn => by cases hn⟩
      injection hg with hg
      subst hg
      rw [add_at, cell_of_row w e.b _ cs t0 (0, 0) h5, Nat.add_assoc]
      rw [List.getElem?_take] at hu
      split at hu
      · rw [List.getElem?_drop] at hu
        rw [h7 _ (lt_of_some hu)]
        exact hu
      · cases hu
    · exact (fail_ok.1 h2).elim
  · exact (fail_ok.1 h).elim

theorem isSliceT_ok {t : TypeId} {tx : Option TypeId} (h : isSliceT P tx = true) (ht : tx = some t) : ∃ e, P.underlying t = some (.slice e) := by
  subst ht
  unfold isSliceT at h
  simp only at h
  generalize hu : P.underlying t = du at h
  split at h
  · exact ⟨_, rfl⟩
  · cases h
theorem src_of {k m c : Nat} {tx : TypeId} {ad : Option Addr} {news : List Value} {e : TypeId} (hk : P.underlying tx = some (.slice e)) (hl : news.length = m * k) (hc : ∀ g, ad = some g → ∀ j u, news[j]? = some u → w.cell? (g.add j) = some u) (h0 : ad = none → m = 0)
    (h1 : ∀ v ∈ news, v.oneCell' = true) : Src P k tx (.slice ad m c) m news w := by
  cases ad with
  | none =>
    obtain rfl := h0 rfl
    have : news = [] := List.eq_nil_of_length_eq_zero (by omega)
    subst this
    exact Src.ofNil w hk c
  | some g => exact Src.ofSlice w hk g m c news hl (hc g rfl) h1
theorem append_room {t tx ty e : TypeId} {i : TypeInfo} (ht : P.underlying t = some (.slice e)) (hi : P.info? e = some i) (b o sLen sCap : Nat) (x : Value) (n : Nat) (news : List Value) (hs : Src P i.size tx x n news w)
    (hroom : sLen + n ≤ sCap) (hst : (storeCells ⟨b, o + sLen * i.size, none⟩ news).run P w = .ok () w') :
    (Builtin.append_ #[t, tx] ty #[.slice (some ⟨b, o, none⟩) sLen sCap, x]).run P w = .ok (.slice (some ⟨b, o, none⟩) (sLen + n) sCap) w' := by
  rcases hs.kind with ⟨e', hk⟩ | hk <;> simp [Builtin.append_, run_underlying ht, run_underlying hk, sizeOf, typeInfo, hi, hs.len, hroom, hs.cells, Addr.add_lit, hst]

/-- Cells are written behind a known row; it goes on from some element. -/
theorem row_extend {t : TypeId} {l m : List SV} {e : Spot} {own0 : List Nat} {off idx len k n : Nat} (h : CAt A P ρ B e own0 (.row l t) w) {us : List Value} (hm : denL ρ m = some us) (hk : P.cellsOf t = k) (hoff : off = idx * k) (hl : l.length = (idx + len) * k)
    (hn : us.length = n * k) (hcap : len + n ≤ e.cap - idx) (hk0 : k ≠ 0) (h1 : m.all SV.oneC = true) {ρ' : Names} (hle : ρ.le ρ') :
    ∃ w', (storeCells ⟨e.b, e.off + off + len * k, none⟩ us).run P w = .ok () w' ∧ ModP (fun b => b ∈ own0) w w' ∧ CAt A P ρ' B ⟨e.b, e.cap - idx, e.off + off, 0, 0, none⟩ own0 (.row (l.drop off ++ m) t) w' := by
  obtain ⟨ho, cs, vs, h2, h3, h4, h5, h6⟩ := h
  have hlv := denL_length h3
  rw [hk] at h5 h6
  have e1 : (idx + len) * k = idx * k + len * k := Nat.add_mul ..
  have e2 : (len + n) * k = len * k + n * k := Nat.add_mul ..
  have e3 : (len + n) * k ≤ (e.cap - idx) * k := Nat.mul_le_mul_right _ hcap
  have e4 : idx * k + (e.cap - idx) * k = e.cap * k ∨ e.cap < idx := by
    rcases Nat.lt_or_ge e.cap idx with hlt | hge
    · exact .inr hlt
    · left
      rw [← Nat.add_mul]
      congr 1
      omega
  have e5 : idx * k + (e.cap - idx) * k = e.cap * k := by
    rcases e4 with h | h
    · exact h
    · have hz : e.cap - idx = 0 := by omega
      rw [hz, Nat.zero_mul] at e3
      have : (idx + len) * k ≤ e.cap * k := by omega
      have := Nat.le_of_mul_le_mul_right this (by omega)
      omega
  have hst := run_storeCells_at (P := P) e.b (e.off + off + len * k) t us 0 cs w h2 (by simp only [Nat.add_zero]; omega) (oneC_all h1 hm)
  simp only [Nat.add_zero] at hst
  refine ⟨_, hst, ⟨rfl, rfl, rfl, by simp, fun q hq hnq => ?_⟩, ho, _, vs.drop off ++ us, setRow_heap w e.b cs _ t (0, 0) h2, ?_, ?_, ?_, ?_⟩
  · exact setRow_other w e.b q _ (fun hke => hnq (by rw [ho, hke]; simp))
  · exact denL_append.2 ⟨_, _, denL_drop (denL_mono hle _ _ h3) off, denL_mono hle _ _ hm, rfl⟩
  · intro i hi
    simp only [List.length_append, List.length_drop] at hi
    change (List.toArray _)[e.off + off + i]? = _
    rw [List.getElem?_toArray, List.append_assoc, splice_get (by simp; omega), List.getElem?_append, List.length_drop]
    by_cases g1 : i < len * k
    · rw [if_pos (by omega), if_pos (by omega), Array.getElem?_toList, List.getElem?_drop, Nat.add_assoc]
      exact h4 (off + i) (by omega)
    · rw [if_neg (by omega), if_pos (by omega), if_neg (by omega)]
      congr 1
      omega
  · rw [hk, List.length_append, List.length_drop]
    show _ ≤ (e.cap - idx) * k
    omega
  · rw [hk, List.size_toArray, List.append_assoc, splice_length (by simp; omega)]
    show e.off + off + (e.cap - idx) * k ≤ _
    simp
    omega
end
end Go.Proofs.Ytjediiajmnlonaa
