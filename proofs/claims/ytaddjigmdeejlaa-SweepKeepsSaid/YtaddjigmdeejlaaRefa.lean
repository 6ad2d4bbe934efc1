/- The document's banks: an access is what the plain definition says. -/
import Derived.Test.YtaddjigmdeejlaaOwn
namespace Go.Proofs.Ytaddjigmdeejlaa
open Go.RowKit Go.Ss

/-- a slice of words in a block of which P tells -/
def SlP (P : Nat → Prop) (w : World) (v : Value) (l : List Int) : Prop :=
  SlI .u64 w v l ∧ (0 < l.length → ∀ a n cap, v = .slice (some a) n cap → P a.block)

theorem SlI.fr2 {S : List Nat} {k : IntKind} {w w' : World} {v : Value} {l : List Int} (h : SlI k w v l) (f : Fr S w w') (hS : 0 < l.length → ∀ a n cap, v = .slice (some a) n cap → a.block ∉ S) : SlI k w' v l := by
  obtain ⟨a, cap, rfl, h1, h2, h3, h4⟩ := h
  refine ⟨a, cap, rfl, h1, h2, h3, fun x hx => ?_⟩
  obtain ⟨h5, h6⟩ := h4 x hx
  refine ⟨fun h => Nat.lt_of_lt_of_le (h5 h) f.size, fun i hi => ?_⟩
  replace h5 := h5 (by omega)
  rw [← h6 i hi]
  have hb : (x.add i).block = x.block := by unfold Addr.add; split <;> rfl
  subst hx
  exact World.cell?_of_block (w := w) (by rw [hb]; exact f.block _ h5 (hS (by omega) _ _ _ rfl))
theorem SlP.fr {P : Nat → Prop} {S : List Nat} {w w' : World} {v : Value} {l : List Int} (h : SlP P w v l) (f : Fr S w w') (hS : ∀ b ∈ S, ¬ P b) : SlP P w' v l :=
  ⟨SlI.fr2 h.1 f (fun hl a n cap e hm => hS _ hm (h.2 hl a n cap e)), h.2⟩
theorem SlP.fr0 {P : Nat → Prop} {w w' : World} {v : Value} {l : List Int} (h : SlP P w v l) (f : Fr [] w w') : SlP P w' v l := SlP.fr h f (by simp)

theorem SlP.mono {P P' : Nat → Prop} {w : World} {v : Value} {l : List Int} (h : SlP P w v l) (hp : ∀ b, P b → P' b) : SlP P' w v l := ⟨h.1, fun hl a n cap e => hp _ (h.2 hl a n cap e)⟩
theorem SlP.old {P : Nat → Prop} {w : World} {v : Value} {l : List Int} (h : SlP P w v l) : SlP (fun b => P b ∧ b < w.heap.size) w v l :=
  ⟨h.1, fun hl a n cap e => ⟨h.2 hl a n cap e, by
    obtain ⟨⟨a', cap', e', _, _, _, h4⟩, _⟩ := h
    rw [e] at e'; cases e'
    exact (h4 a rfl).1 hl⟩⟩
theorem SlI.at_ {w : World} {ad : Addr} {n cap : Nat} {l : List Int} (h : SlI .u64 w (.slice (some ad) n cap) l) (i : Int) (h0 : 0 ≤ i) (h1 : i < (l.length : Int)) : w.cell? (ad.add i.toNat) = some (.int .u64 (getI l i)) := by
  obtain ⟨a, cap', e, _, _, _, h4⟩ := h
  cases e
  exact (h4 ad rfl).2 i.toNat (by omega)
theorem SlI.news {w : World} {ad : Addr} {n cap : Nat} {l : List Int} (h : SlI .u64 w (.slice (some ad) n cap) l) : ∀ j u, (l.map (Value.int .u64))[j]? = some u → w.cell? (ad.add j) = some u := by
  obtain ⟨a, cap', e, _, _, _, h4⟩ := h
  cases e
  intro j u hu
  rw [List.getElem?_map] at hu
  cases hj : l[j]? with
  | none => rw [hj] at hu; cases hu
  | some y =>
    rw [hj] at hu
    have hlt : j < l.length := (List.getElem?_eq_some_iff.1 hj).1
    rw [(h4 ad rfl).2 j hlt, List.getD_eq_getElem?_getD, hj]
    exact hu
theorem SlP.own {w : World} {base T g n gc : Nat} {l : List Int} (h : w.ownsRow base T 1 (.slice (some ⟨g, 0, none⟩) n gc) n (l.map (.int .u64))) (hn : n = l.length) : SlP (fun b => base ≤ b) w (.slice (some ⟨g, 0, none⟩) n gc) l := by
  subst hn
  have hlt := h.lt g rfl
  refine ⟨⟨some ⟨g, 0, none⟩, gc, rfl, ?_, ?_, (fun h => by cases h), ?_⟩, ?_⟩
  · rcases h.2 with ⟨h', _⟩ | ⟨g', cap', cur, h', _, _, h1, h2, _⟩
    · simp at h'
    · simp only [Value.slice.injEq, Option.some.injEq, Addr.mk.injEq, and_true, true_and] at h'
      obtain ⟨rfl, rfl⟩ := h'; exact h1
  · rcases h.2 with ⟨h', _⟩ | ⟨g', cap', cur, h', _, _, h1, h2, _⟩
    · simp at h'
    · simp only [Value.slice.injEq, Option.some.injEq, Addr.mk.injEq, and_true, true_and] at h'
      obtain ⟨rfl, rfl⟩ := h'; exact h2
  · intro x hx
    cases hx
    refine ⟨fun _ => hlt.2, fun i hi => ?_⟩
    have := h.cellAt i (by omega)
    rw [show (⟨g, 0, none⟩ : Addr).add i = ⟨g, i, none⟩ by simp [Addr.add]; omega, this]
    simp [List.getD_eq_getElem?_getD, List.getElem?_eq_getElem hi]
  · intro _ a n' cap' e
    cases e; exact hlt.1
end Go.Proofs.Ytaddjigmdeejlaa
