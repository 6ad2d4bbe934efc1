/- Aids: frames over rows of the call's own; slices of words that came in; what an access tells and makes, in plain words. -/
import Derived.Test.YtaddjigmdeejlaaGuard
import Derived.Deep.DeepCutAuto
import Derived.ProofKit
import Derived.OpenShut
namespace Go.Proofs.Ytaddjigmdeejlaa
open Go.RowKit Go.Ss

theorem Fr.hide {S : List Nat} {w w1 w2 : World} (h0 : Fr [] w w1) (h : Fr S w1 w2) (hs : ∀ b ∈ S, w.heap.size ≤ b) : Fr [] w w2 :=
  ⟨h.os.trans h0.os, h.tape.trans h0.tape, h.output.trans h0.output, Nat.le_trans h0.size h.size,
   fun k hk _ => (h.block k (Nat.lt_of_lt_of_le hk h0.size) (fun hx => by have := hs k hx; omega)).trans (h0.block k hk (by simp))⟩
theorem Fr.below {w w' : World} (h : Fr [] w w') : Below w.heap.size w w' := ⟨h.os, h.tape, h.output, h.size, fun k hk => h.block k hk (by simp)⟩
theorem Fr.grown {S : List Nat} {a w w' : World} {row : Option Nat} (h : Fr S a w) (g : w.grownBy w' row) (hr : ∀ k, row = some k → a.heap.size ≤ k) : Fr S a w' :=
  ⟨g.os.trans h.os, g.tape.trans h.tape, g.output.trans h.output, Nat.le_trans h.size g.size,
   fun k hk hn => (g.block k (Nat.lt_of_lt_of_le hk h.size) (fun e => by have := hr k e.symm; omega)).trans (h.block k hk hn)⟩
theorem ownsRow_fr {S : List Nat} {w w' : World} {base e size : Nat} {v : Value} {n : Nat} {xs : List Value} (h : w.ownsRow base e size v n xs) (f : Fr S w w') (hS : ∀ b ∈ S, b < base) : w'.ownsRow base e size v n xs := by
  obtain ⟨h1, h2⟩ := h
  refine ⟨h1, ?_⟩
  rcases h2 with h2 | ⟨g, cap, cur, hv, hb, hg, h3⟩
  · exact .inl h2
  · have hlt : g < w.heap.size := (Array.getElem?_eq_some_iff.1 hg).1
    exact .inr ⟨g, cap, cur, hv, hb, (f.block g hlt (fun hx => by have := hS g hx; omega)).trans hg, h3⟩

/-- A slice of ints of kind k that came in, read as l. -/
def SlI (k : IntKind) (w : World) (v : Value) (l : List Int) : Prop :=
  ∃ (a : Option Addr) (cap : Nat), v = .slice a l.length cap ∧ l.length ≤ cap ∧ cap ≤ maxLen ∧ (a = none → l = [] ∧ cap = 0) ∧
    ∀ x, a = some x → (0 < l.length → x.block < w.heap.size) ∧ ∀ i, i < l.length → w.cell? (x.add i) = some (.int k (l.getD i 0))

theorem SlI.fr {S : List Nat} {k : IntKind} {w w' : World} {v : Value} {l : List Int} (h : SlI k w v l) (f : Fr S w w') (hS : ∀ b ∈ S, w.heap.size ≤ b) : SlI k w' v l := by
  obtain ⟨a, cap, rfl, h1, h2, h3, h4⟩ := h
  refine ⟨a, cap, rfl, h1, h2, h3, fun x hx => ?_⟩
  obtain ⟨h5, h6⟩ := h4 x hx
  refine ⟨fun h => Nat.lt_of_lt_of_le (h5 h) f.size, fun i hi => ?_⟩
  replace h5 := h5 (by omega)
  rw [← h6 i hi]
  have hb : (x.add i).block = x.block := by unfold Addr.add; split <;> rfl
  exact World.cell?_of_block (w := w) (by rw [hb]; exact f.block _ h5 (fun hx => by have := hS _ hx; omega))

/-! ### What accesses tell and make -/
theorem Bk.has_of {B : Bk} {i : Int} (h0 : 0 ≤ i) (h1 : i < (B.cells.length : Int)) : B.has i = true := by unfold Bk.has; rw [decide_eq_true h0, decide_eq_true h1]; rfl
theorem Bk.load_old {B : Bk} {i : Int} (v : Int) (h0 : 0 ≤ i) (h1 : i < (B.cells.length : Int)) : (B.load i v).2.old = getI B.cells i := by
  unfold Bk.load Bk.access; rw [if_pos (Bk.has_of h0 h1)]
theorem setI_getI (l : List Int) (i : Int) : setI l i (getI l i) = l := by
  unfold setI getI
  rcases Nat.lt_or_ge i.toNat l.length with h | h
  · rw [List.getD_eq_getElem?_getD, List.getElem?_eq_getElem h]; exact List.set_getElem_self h
  · exact List.set_eq_of_length_le h
theorem Bk.load_cells (B : Bk) (i v : Int) : (B.load i v).1.cells = B.cells := by
  unfold Bk.load Bk.access; split
  · exact setI_getI _ _
  · rfl
theorem Bk.store_cells {B : Bk} {i : Int} (v x : Int) (h0 : 0 ≤ i) (h1 : i < (B.cells.length : Int)) : (B.store i v x).1.cells = setI B.cells i x := by
  unfold Bk.store Bk.access; rw [if_pos (Bk.has_of h0 h1)]; rfl
theorem getI_setI_same {l : List Int} {i : Int} (x : Int) (h0 : 0 ≤ i) (h1 : i < (l.length : Int)) : getI (setI l i x) i = x := by
  have h : i.toNat < l.length := by omega
  unfold getI setI; rw [List.getD_eq_getElem?_getD, List.getElem?_set_self h]; rfl
theorem getI_setI_ne {l : List Int} {i j : Int} (x : Int) (h0 : 0 ≤ i) (h1 : 0 ≤ j) (h : i ≠ j) : getI (setI l i x) j = getI l j := by
  unfold getI setI; rw [List.getD_eq_getElem?_getD, List.getElem?_set_ne (by omega), ← List.getD_eq_getElem?_getD]
theorem resv_eq {c : Cfg} {t s : Int} (t0 : 0 ≤ t) (t1 : t < c.threads) (s0 : 0 ≤ s) (s1 : s < c.slots) : c.resv t s = 1 + t * c.slots + s := if_pos ⟨t0, t1, s0, s1⟩
theorem resv_range {c : Cfg} (hc : c.R) {t s : Int} (t0 : 0 ≤ t) (t1 : t < c.threads) (s0 : 0 ≤ s) (s1 : s < c.slots) : 1 ≤ c.resv t s ∧ c.resv t s < c.len := by
  have h1 := hc.resv_bd t s
  have h2 := hc.len_bd
  have h3 : c.first ≤ c.len := by
    have := mul_bd (a := c.cap + 1) (b := c.fields) (A := 65) (B := 12) (by have := hc.c0; omega) (by have := hc.c1; omega) (by have := hc.fields_bd; omega) (by have := hc.fields_bd; omega)
    unfold Cfg.len; omega
  have h4 := mul_bd (a := t) (b := c.slots) (A := 8) (B := 8) t0 (by have := hc.t1; omega) (by have := hc.s0; omega) hc.s1
  rw [resv_eq t0 t1 s0 s1] at *
  omega
theorem reserved_val {M : Mm} (ok : M.Ok) {t s : Int} (t0 : 0 ≤ t) (t1 : t < M.c.threads) (s0 : 0 ≤ s) (s1 : s < M.c.slots) : (M.reserved t s).2 = getI M.b.cells (M.c.resv t s) := by
  have h := resv_range ok.r t0 t1 s0 s1
  exact Bk.load_old _ (by omega) (by rw [ok.len]; omega)
theorem reserve_cells {M : Mm} (ok : M.Ok) {t s : Int} (era : Int) (t0 : 0 ≤ t) (t1 : t < M.c.threads) (s0 : 0 ≤ s) (s1 : s < M.c.slots) : (M.reserve t s era).b.cells = setI M.b.cells (M.c.resv t s) era := by
  have h := resv_range ok.r t0 t1 s0 s1
  exact Bk.store_cells _ _ (by omega) (by rw [ok.len]; omega)
end Go.Proofs.Ytaddjigmdeejlaa
