/- An argument of entries, opened. -/
import Derived.Test.YtaddjigmdeejlaaRowBase
import Derived.Test.YtaddjigmdeejlaaSlots
namespace Go.Proofs.Ytaddjigmdeejlaa
open Go.Joins Go.ChangeShapes Go.WideShapes Go.ChangeAt Go.RowKit Go.Deep Go.Ss
section
variable {H : Type} {enc : TypeId × Value → H} {P : Program} {w : World} {base : Nat} {spare : Nat → Bool} {held : Bool}
theorem open_rows3 {t e : TypeId} {fs : Array Field} {fuel : Nat} {cs : List Value} {x : DataW H × List MemPlace} (ht : P.underlying t = some (.slice e)) (he : P.underlying e = some (.struct fs))
    (hone : oneCellFields P fs = true) (hC : P.cellsOf e = fs.size) (h : DataW.trod enc P w base spare held fuel t cs = some x) :
    (cs = [.slice none 0 0]) ∨
    ∃ (a : Addr) (len cap : Nat), cs = [.slice (some a) len cap] ∧ len ≤ cap ∧ cap ≤ maxLen ∧
      ∀ i, i < len → ∀ (j : Nat) (f : Field), fs[j]? = some f → ∃ (v : Value) (y : DataW H × List MemPlace) (n : Nat), w.cell? (a.add (i * fs.size + j)) = some v ∧ DataW.trod enc P w base spare held n f.type [v] = some y := by
  rcases open_slice ht h with h0 | ⟨a, len, cap, m, n, D, Pl, hcs, hb, hl, hm, hmm, hx, hi⟩
  · exact .inl h0.1
  · refine .inr ⟨a, len, cap, hcs, hl, hm, fun i him j f hj => ?_⟩
    obtain ⟨cs', hc, ht'⟩ := hi i (by rw [hmm]; split <;> omega)
    rw [hC] at hc
    obtain ⟨ys, n', hn', hy, hlen, hyl, hf⟩ := DataW.trod_struct he ht'
    obtain ⟨_, hcl, hat⟩ := World.cells?_some hc
    obtain ⟨ho, hk⟩ := hone_of hone j f hj
    have hjl : j < fs.size := (Array.getElem?_eq_some_iff.1 hj).1
    have hcell := hat j hjl
    have hv : cs'[j]? = some (cs'[j]'(by omega)) := List.getElem?_eq_getElem (by omega)
    have h1 := hf j f hj
    rw [ho, hk] at h1
    have hone' : (cs'.drop j).take 1 = [cs'[j]'(by omega)] := by rw [List.drop_eq_getElem_cons (by omega)]; rfl
    rw [hone'] at h1
    have hys : ys[j]? = some (ys[j]'(by omega)) := List.getElem?_eq_getElem (by omega)
    refine ⟨_, _, n', ?_, h1.trans hys⟩
    rw [← Go.Deep.add_add, hcell, hv]
end

theorem exists_list {α : Type} (n : Nat) (p : Nat → α → Prop) (h : ∀ i, i < n → ∃ x, p i x) : ∃ l : List α, l.length = n ∧ ∀ i x, l[i]? = some x → p i x := by
  induction n generalizing p with
  | zero => exact ⟨[], rfl, fun i x hx => by simp at hx⟩
  | succ n ih =>
    obtain ⟨x0, h0⟩ := h 0 (by omega)
    obtain ⟨l, hl, hp⟩ := ih (fun i => p (i + 1)) (fun i hi => h (i + 1) (by omega))
    refine ⟨x0 :: l, by simp [hl], fun i x hx => ?_⟩
    cases i with
    | zero => simp at hx; subst hx; exact h0
    | succ i => exact hp i x (by simpa using hx)

set_option maxRecDepth 100000 in
theorem open_entries {H : Type} {enc : TypeId × Value → H} {W : World} {b0 : Nat} {v : Value} {d : DataW H} {p : List MemPlace} (t : TypeId) (ht : Try.prog.underlying t = some (.slice 146))
    (hv : Value.okWide Try.prog W .any b0 t v) (h : DataW.Trod enc Try.prog W 0 (fun _ => true) true t v d p) : ∃ l : List En, SlE W v l ∧ Es l := by
  obtain ⟨a, len, cap, rfl⟩ := okWide_slice ht hv
  obtain ⟨fuel, hf⟩ := h
  rcases open_rows3 ht Try.underlying146 (by kernel_rfl) (by kernel_rfl) hf with hcs | ⟨x, l, c, hcs, hl, hm, hcell⟩
  · simp [Value.cells] at hcs
    obtain ⟨rfl, rfl, rfl⟩ := hcs
    exact ⟨[], ⟨none, 0, rfl, fun _ => rfl, fun x hx => by cases hx⟩, fun x hx => by cases hx⟩
  · simp [Value.cells] at hcs
    obtain ⟨rfl, rfl, rfl⟩ := hcs
    obtain ⟨es, hes, hE⟩ := exists_list len (fun i (e : En) => (W.cell? (x.add (i * 3)) = some (.int .u64 e.node) ∧ W.cell? (x.add (i * 3 + 1)) = some (.int .u64 e.birth) ∧ W.cell? (x.add (i * 3 + 2)) = some (.int .u64 e.retired)) ∧ e.W) (by
      intro i hi
      obtain ⟨v0, y0, n0, c0, t0⟩ := hcell i hi 0 _ rfl
      obtain ⟨v1, y1, n1, c1, t1⟩ := hcell i hi 1 _ rfl
      obtain ⟨v2, y2, n2, c2, t2⟩ := hcell i hi 2 _ rfl
      obtain ⟨z0, e0, _, w0⟩ := DataW.trod_int Try.underlying26 t0
      obtain rfl : v0 = .int .u64 z0 := by simpa using e0
      obtain ⟨z1, e1, _, w1⟩ := DataW.trod_int Try.underlying26 t1
      obtain rfl : v1 = .int .u64 z1 := by simpa using e1
      obtain ⟨z2, e2, _, w2⟩ := DataW.trod_int Try.underlying26 t2
      obtain rfl : v2 = .int .u64 z2 := by simpa using e2
      exact ⟨⟨z0, z1, z2⟩, ⟨c0, c1, c2⟩, ⟨(u64_wf w0).1, (u64_wf w0).2, (u64_wf w1).1, (u64_wf w1).2, (u64_wf w2).1, (u64_wf w2).2⟩⟩)
    refine ⟨es, ⟨some x, cap, by rw [hes], (fun h => by cases h), ?_⟩, fun e he => ?_⟩
    · rintro x' hx'
      cases hx'
      refine ⟨fun h0 => ?_, fun i e hi => (hE i e hi).1⟩
      obtain ⟨e0, he0⟩ : ∃ e, es[0]? = some e := ⟨_, List.getElem?_eq_getElem h0⟩
      have hc := (hE 0 e0 he0).1.1
      have hb : (x.add (0 * 3)).block = x.block := by unfold Addr.add; split <;> rfl
      have := cell_lt hc
      omega
    · obtain ⟨i, hi⟩ := List.getElem?_of_mem he
      exact (hE i e hi).2
end Go.Proofs.Ytaddjigmdeejlaa
