/- Statements on sweeps over slots: how they begin. -/
import Derived.Test.YtaddjigmdeejlaaAliveFifteen
import Derived.Test.YtaddjigmdeejlaaSweepr
namespace Go.Proofs.Ytaddjigmdeejlaa
open Go.RowKit Go.Ss

theorem SlE.fr0 {w w' : World} {v : Value} {l : List En} (h : SlE w v l) (f : Fr [] w w') : SlE w' v l := by
  obtain ⟨a, cap, rfl, h1, h2⟩ := h
  refine ⟨a, cap, rfl, h1, fun x hx => ?_⟩
  obtain ⟨h3, h4⟩ := h2 x hx
  refine ⟨fun h => Nat.lt_of_lt_of_le (h3 h) f.size, fun i e he => ?_⟩
  obtain ⟨c1, c2, c3⟩ := h4 i e he
  exact ⟨cell_fr f c1 (by simp), cell_fr f c2 (by simp), cell_fr f c3 (by simp)⟩
def SwP (z bs bg : Nat) (b : Nat) : Prop := z ≤ b ∧ b ≠ bs ∧ b ≠ bg
theorem sw_setup {W2 W3 : World} {z bs bg bm bb bc : Nat} {S : Sw} (hs : SwAt (fun b => z ≤ b ∧ b ≠ bs) W2 bs S) (f : Fr [] W2 W3) (hbs : z ≤ bs) (hbg : W2.heap.size ≤ bg) (lg : bg < W3.heap.size)
    (m0 : bm < z) (m1 : bb < z) (m2 : bc < z) : SwAt (SwP z bs bg) W3 bs S ∧ Apt (SwP z bs bg) W3 bs bg bm bb bc := by
  have lb := hs.lt
  have z3 := f.size
  refine ⟨((hs.mono (fun b hb hlt => ⟨hb.1, hb.2, by omega⟩)).frq (f.q0 (Q := fun _ => False)) (by simp) (by simp)), ?_⟩
  unfold SwP
  exact ⟨by simp, by simp, by omega, by omega, by omega, fun b hb => by omega, by omega, by omega, by omega, by omega, by omega, by omega, by omega⟩
theorem SwQ.hide {w W1 W2 W3 : World} {z bs bg bb bc : Nat} (f : Fr [] w W1) (g : FrQ (SwQ (SwP z bs bg) bs bg bb bc) W1 W2) (hz : w.heap.size ≤ z) (h0 : w.heap.size ≤ bs) (h1 : w.heap.size ≤ bg) (h2 : w.heap.size ≤ bb) (h3 : w.heap.size ≤ bc) (f3 : Fr [] W2 W3) : Fr [] w W3 :=
  (FrQ.hide f g (by intro b hb; rcases hb with h | h | h | h | h; (exact Nat.le_trans hz h.1); all_goals omega)).trans f3

/-- the state in which a sweep of slots begins -/
def x15 (c : Cfg) (l : List En) (M : Mm) : Sst := ⟨Sw.new (mineL l l.length), M, ⟨0, 0, 0⟩⟩
theorem x15_ok {c : Cfg} (hc : c.R) {l : List En} (he : Es l) (hl : (l.length : Int) ≤ c.cap) {M : Mm} (ok : M.Ok) (hM : M.c = c) : (x15 c l M).Ok c := by
  have := hc.c1
  exact ⟨Sw.new_ok (by rw [mineL_length]; omega) (mineL_es he _ (Nat.le_refl _) (by omega)) hc, ok, hM⟩
end Go.Proofs.Ytaddjigmdeejlaa
