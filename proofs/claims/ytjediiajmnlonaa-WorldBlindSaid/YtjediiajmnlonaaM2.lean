/- A map from places to words as a function: what a look-up, a store and a deletion do. Condition: the places' numbers fit int. -/
import Derived.Test.YtjediiajmnlonaaM1
import Derived.Maps.Views
import Derived.Carry
namespace Go.Proofs.Ytjediiajmnlonaa
open Go.RowKit

theorem litP_inj {p q : Pl} (hp : PlWf p) (hq : PlWf q) (h : litP p = litP q) : p = q := by
  have h1 := keyOf_place p hp
  have h2 := keyOf_place q hq
  rw [← h] at h2
  have := place_law.inj h1 h2
  obtain ⟨p1, p2, p3⟩ := p
  obtain ⟨q1, q2, q3⟩ := q
  simpa [kagg] using this

/-- Block b is a map of at most n entries that holds the words f (no entry where f is 0). -/
def MapAt (w : World) (b : Nat) (f : Pl → Int) (n : Nat) : Prop :=
  ∃ D : DataW Unit, w.ownsMap Try.prog 53 (plainElem Try.prog 56) b n D ∧
    (∀ p, PlWf p → D.atKey (litP p) (.lit (.int .u64 0)) = .lit (.int .u64 (f p))) ∧ ∀ p, PlWf p → Maps.has D (litP p) = decide (f p ≠ 0)

theorem MapAt.mod {S : List Nat} {w w' : World} {b n : Nat} {f : Pl → Int} (h : MapAt w b f n) (hm : Mod S w w') (hb : b ∉ S) : MapAt w' b f n := by
  obtain ⟨D, ⟨es, cl, h1, h2⟩, h3⟩ := h
  exact ⟨D, ⟨es, cl, by rw [hm.block b (heap_lt h1) hb]; exact h1, h2⟩, h3⟩

theorem MapAt.new (w : World) : MapAt (w.alloc (.map #[] 0)) w.heap.size (fun _ => 0) 0 :=
  ⟨.map [], World.ownsMap_made w _ _ _, fun p _ => by simp [DataW.atKey], fun p _ => by simp [Maps.has]⟩

set_option maxRecDepth 100000 in
theorem MapAt.lookup {w : World} {b n : Nat} {f : Pl → Int} (h : MapAt w b f n) {p : Pl} (hp : PlWf p) {t : TypeId} (ht : Try.prog.underlying t = some (.map 53 56)) :
    (Instr.lookup t (.map (some b)) (kagg p) false).run Try.prog w = .ok (.int .u64 (f p)) w := by
  obtain ⟨D, ho, ha, _⟩ := h
  obtain ⟨c, h1, h2, _⟩ := ho.lookup_int place_keyed ht Try.underlying56 (by kernel_rfl) (keyOf_place p hp)
  rw [ha p hp] at h2
  injection h2 with h2
  injection h2 with _ h2
  rw [h1, h2]

theorem Mod.of_turned {w w' : World} {b : Nat} (h : w.mapTurned w' b) : Mod [b] w w' := by
  have hg := h.grown
  exact (Mod.refl [b] w).grown hg (fun g hg => by injection hg with hg; subst hg; exact .inl (by simp))

theorem MapAt.store {w : World} {b n : Nat} {f : Pl → Int} (h : MapAt w b f n) (hn : n < maxLen) {p : Pl} (hp : PlWf p) {v : Int} (hv : (Lit.int .u64 v).wf = true) (hv0 : v ≠ 0) {t : TypeId} (ht : Try.prog.underlying t = some (.map 53 56)) :
    ∃ w', (Instr.mapUpdate t (.map (some b)) (kagg p) (.int .u64 v)).run Try.prog w = .ok () w' ∧ MapAt w' b (fun q => if q = p then v else f q) (n + 1) ∧ Mod [b] w w' := by
  obtain ⟨D, ho, ha, hh⟩ := h
  obtain ⟨w', h1, h2, h3⟩ := ho.store place_keyed ht hn (keyOf_place p hp) (plainElem_int Try.underlying56 hv)
  refine ⟨w', h1, ⟨_, h2, fun q hq => ?_, fun q hq => ?_⟩, Mod.of_turned h3⟩
  · by_cases e : q = p
    · subst e
      rw [Maps.atKey_put_same ho.isMap (place_keyed.key (keyOf_place q hq))]
      simp
    · rw [Maps.atKey_put_other (fun h => e (litP_inj hq hp h)), ha q hq]
      simp [e]
  · by_cases e : q = p
    · subst e
      rw [Maps.has_put_same ho.isMap (place_keyed.key (keyOf_place q hq))]
      simp [hv0]
    · rw [Maps.has_put_other (fun h => e (litP_inj hq hp h)), hh q hq]
      simp [e]

theorem MapAt.drop {w : World} {b n : Nat} {f : Pl → Int} (h : MapAt w b f n) {p : Pl} (hp : PlWf p) {t : TypeId} (ht : Try.prog.underlying t = some (.map 53 56)) (ty : TypeId) :
    ∃ w', (Builtin.delete_ #[t, 53] ty #[.map (some b), kagg p]).run Try.prog w = .ok (.tuple #[]) w' ∧ MapAt w' b (fun q => if q = p then 0 else f q) n ∧ Mod [b] w w' := by
  obtain ⟨D, ho, ha, hh⟩ := h
  obtain ⟨w', h1, h2, h3⟩ := ho.drop place_keyed ht (keyOf_place p hp) ty
  refine ⟨w', h1, ⟨_, h2, fun q hq => ?_, fun q hq => ?_⟩, Mod.of_turned h3⟩
  · by_cases e : q = p
    · subst e
      rw [Maps.atKey_del_same]
      simp
    · rw [Maps.atKey_del_other (fun h => e (litP_inj hq hp h)), ha q hq]
      simp [e]
  · by_cases e : q = p
    · subst e
      rw [Maps.has_del_same]
      simp
    · rw [Maps.has_del_other (fun h => e (litP_inj hq hp h)), hh q hq]
      simp [e]
end Go.Proofs.Ytjediiajmnlonaa
