/- The document's bank: each kind of access, whatever the cell. -/
import Derived.Test.YtaddjigmdeejlaaRefb
import Derived.Test.YtaddjigmdeejlaaRefc
import Derived.Test.YtaddjigmdeejlaaRefd
namespace Go.Proofs.Ytaddjigmdeejlaa
open Go.RowKit Go.Ss

theorem has_out {B : Bk} {cell : Int} (h : B.has cell = false) : ¬ 0 ≤ cell ∨ (0 ≤ cell ∧ ¬ cell < (B.cells.length : Int)) := by
  unfold Bk.has at h
  by_cases h0 : 0 ≤ cell
  · right; refine ⟨h0, fun h1 => ?_⟩; rw [decide_eq_true h0, decide_eq_true h1] at h; cases h
  · exact .inl h0
theorem has_in {B : Bk} {cell : Int} (h : B.has cell = true) : 0 ≤ cell ∧ cell < (B.cells.length : Int) := by
  unfold Bk.has at h
  simp only [Bool.and_eq_true, decide_eq_true_eq] at h
  exact h
theorem SlP.some_ {P : Nat → Prop} {w : World} {v : Value} {l : List Int} (h : SlP P w v l) (hl : 0 < l.length) : ∃ ad cap, v = .slice (some ad) l.length cap := by
  obtain ⟨⟨a, cap, rfl, _, _, h3, _⟩, _⟩ := h
  cases a with
  | none => have := (h3 rfl).1; subst this; cases hl
  | some ad => exact ⟨ad, cap, rfl⟩
theorem SlP.form {P : Nat → Prop} {w : World} {v : Value} {l : List Int} (h : SlP P w v l) : ∃ a cap, v = .slice a l.length cap := by
  obtain ⟨⟨a, cap, rfl, _⟩, _⟩ := h; exact ⟨a, cap, rfl⟩
theorem SlP.same {P : Nat → Prop} {w : World} {v : Value} {l : List Int} {i x : Int} (h : SlP P w v l) (hx : getI l i = x) : SlP P w v (setI l i x) := by
  rw [← hx, setI_getI]; exact h

theorem refDo_load {P : Nat → Prop} (B : Bk) (cell via : Int) (s : Value) (w : World) (hs : SlP P w s B.cells) :
    Calls Try.prog 160 #[.agg #[s, .int .i64 B.count, .int .i64 B.last.kind, .int .i64 B.last.cell, .int .u64 B.last.via, .int .u64 B.last.old, .int .u64 B.last.new, .bool B.last.done], .int .i64 1, .int .i64 cell, .int .u64 via, .int .u64 0, .int .u64 0] w fun e w' =>
      e = .returned (.tuple #[.agg #[s, .int .i64 (B.load cell via).1.count, .int .i64 (B.load cell via).1.last.kind, .int .i64 (B.load cell via).1.last.cell, .int .u64 (B.load cell via).1.last.via, .int .u64 (B.load cell via).1.last.old, .int .u64 (B.load cell via).1.last.new, .bool (B.load cell via).1.last.done], .agg #[.int .i64 (B.load cell via).2.kind, .int .i64 (B.load cell via).2.cell, .int .u64 (B.load cell via).2.via, .int .u64 (B.load cell via).2.old, .int .u64 (B.load cell via).2.new, .bool (B.load cell via).2.done]]) ∧ Fr [] w w' := by
  cases hh : B.has cell
  · obtain ⟨a, cap, rfl⟩ := SlP.form hs
    have e : B.load cell via = (⟨B.cells, wrap64 (B.count + 1), ⟨1, cell, via, 0, 0, false⟩⟩, ⟨1, cell, via, 0, 0, false⟩) := by
      unfold Bk.load Bk.access; rw [hh]; rfl
    rw [e]
    exact ref_load_out B cell via a cap w (has_out hh)
  · have hi := has_in hh
    obtain ⟨ad, cap, rfl⟩ := SlP.some_ hs (by omega)
    have e : B.load cell via = (⟨setI B.cells cell (getI B.cells cell), wrap64 (B.count + 1), ⟨1, cell, via, getI B.cells cell, getI B.cells cell, true⟩⟩, ⟨1, cell, via, getI B.cells cell, getI B.cells cell, true⟩) := by
      unfold Bk.load Bk.access; rw [hh]; rfl
    rw [e]
    exact ref_load_in B cell via _ ad cap w hi.1 hi.2 hs.1 rfl

def RefRet (P : Nat → Prop) (B : Bk) (a : Acc) (e : Ending) (w w' : World) : Prop :=
  ∃ s', e = .returned (.tuple #[.agg #[s', .int .i64 B.count, .int .i64 B.last.kind, .int .i64 B.last.cell, .int .u64 B.last.via, .int .u64 B.last.old, .int .u64 B.last.new, .bool B.last.done], .agg #[.int .i64 a.kind, .int .i64 a.cell, .int .u64 a.via, .int .u64 a.old, .int .u64 a.new, .bool a.done]]) ∧ Fr [] w w' ∧ SlP P w' s' B.cells

theorem refDo_store {P : Nat → Prop} (B : Bk) (cell via v : Int) (s : Value) (w : World) (hs : SlP P w s B.cells) (hP : ∀ b, w.heap.size ≤ b → P b) (hlen : B.cells.length ≤ 100000) :
    Calls Try.prog 160 #[.agg #[s, .int .i64 B.count, .int .i64 B.last.kind, .int .i64 B.last.cell, .int .u64 B.last.via, .int .u64 B.last.old, .int .u64 B.last.new, .bool B.last.done], .int .i64 2, .int .i64 cell, .int .u64 via, .int .u64 0, .int .u64 v] w fun e w' =>
      RefRet P (B.store cell via v).1 (B.store cell via v).2 e w w' := by
  cases hh : B.has cell
  · obtain ⟨a, cap, rfl⟩ := SlP.form hs
    have e : B.store cell via v = (⟨B.cells, wrap64 (B.count + 1), ⟨2, cell, via, 0, 0, false⟩⟩, ⟨2, cell, via, 0, 0, false⟩) := by
      unfold Bk.store Bk.access; rw [hh]; rfl
    rw [e]
    exact (ref_store_out B cell via v a cap w (has_out hh)).mono fun e w' h => ⟨_, h.1, h.2, SlP.fr0 hs h.2⟩
  · have hi := has_in hh
    obtain ⟨ad, cap, rfl⟩ := SlP.some_ hs (by omega)
    have e : B.store cell via v = (⟨setI B.cells cell v, wrap64 (B.count + 1), ⟨2, cell, via, getI B.cells cell, v, true⟩⟩, ⟨2, cell, via, getI B.cells cell, v, true⟩) := by
      unfold Bk.store Bk.access; rw [hh]; rfl
    rw [e]
    by_cases hv : v = getI B.cells cell
    · refine (ref_store_same B cell via v _ ad cap w hi.1 hi.2 hs.1 rfl hv).mono fun e w' h => ⟨_, ?_, h.2, SlP.same (SlP.fr0 hs h.2) hv.symm⟩
      simp only [← hv] at h ⊢; exact h.1
    · exact (ref_store_diff B cell via v _ ad cap w hi.1 hi.2 hs.1 rfl hv hlen).mono fun e w' ⟨g, gc, h1, h2, h3⟩ => ⟨_, h1, h2, SlP.mono h3 hP⟩

theorem refDo_swap {P : Nat → Prop} (B : Bk) (cell via old v : Int) (s : Value) (w : World) (hs : SlP P w s B.cells) (hP : ∀ b, w.heap.size ≤ b → P b) (hlen : B.cells.length ≤ 100000) :
    Calls Try.prog 160 #[.agg #[s, .int .i64 B.count, .int .i64 B.last.kind, .int .i64 B.last.cell, .int .u64 B.last.via, .int .u64 B.last.old, .int .u64 B.last.new, .bool B.last.done], .int .i64 3, .int .i64 cell, .int .u64 via, .int .u64 old, .int .u64 v] w fun e w' =>
      RefRet P (B.swap cell via old v).1 (B.swap cell via old v).2 e w w' := by
  cases hh : B.has cell
  · obtain ⟨a, cap, rfl⟩ := SlP.form hs
    have e : B.swap cell via old v = (⟨B.cells, wrap64 (B.count + 1), ⟨3, cell, via, 0, 0, false⟩⟩, ⟨3, cell, via, 0, 0, false⟩) := by
      unfold Bk.swap Bk.access; rw [hh]; rfl
    rw [e]
    exact (ref_swap_out B cell via old v a cap w (has_out hh)).mono fun e w' h => ⟨_, h.1, h.2, SlP.fr0 hs h.2⟩
  · have hi := has_in hh
    obtain ⟨ad, cap, rfl⟩ := SlP.some_ hs (by omega)
    by_cases ho : getI B.cells cell = old
    · have e : B.swap cell via old v = (⟨setI B.cells cell v, wrap64 (B.count + 1), ⟨3, cell, via, getI B.cells cell, v, true⟩⟩, ⟨3, cell, via, getI B.cells cell, v, true⟩) := by
        unfold Bk.swap Bk.access fSwap; rw [hh, if_pos rfl, if_pos ho]
      rw [e]
      by_cases hv : v = getI B.cells cell
      · refine (ref_swap_same B cell via old v _ ad cap w hi.1 hi.2 hs.1 rfl ho.symm hv).mono fun e w' h => ⟨_, ?_, h.2, SlP.same (SlP.fr0 hs h.2) hv.symm⟩
        simp only [← hv] at h ⊢; exact h.1
      · exact (ref_swap_diff B cell via old v _ ad cap w hi.1 hi.2 hs.1 rfl ho.symm hv hlen).mono fun e w' ⟨g, gc, h1, h2, h3⟩ => ⟨_, h1, h2, SlP.mono h3 hP⟩
    · have e : B.swap cell via old v = (⟨setI B.cells cell (getI B.cells cell), wrap64 (B.count + 1), ⟨3, cell, via, getI B.cells cell, getI B.cells cell, false⟩⟩, ⟨3, cell, via, getI B.cells cell, getI B.cells cell, false⟩) := by
        unfold Bk.swap Bk.access fSwap; rw [hh, if_pos rfl, if_neg ho]
      rw [e]
      exact (ref_swap_no B cell via old v _ ad cap w hi.1 hi.2 hs.1 rfl ho).mono fun e w' h => ⟨_, h.1, h.2, SlP.same (SlP.fr0 hs h.2) rfl⟩

theorem refDo_add {P : Nat → Prop} (B : Bk) (cell via v : Int) (s : Value) (w : World) (hs : SlP P w s B.cells) (hP : ∀ b, w.heap.size ≤ b → P b) (hlen : B.cells.length ≤ 100000) :
    Calls Try.prog 160 #[.agg #[s, .int .i64 B.count, .int .i64 B.last.kind, .int .i64 B.last.cell, .int .u64 B.last.via, .int .u64 B.last.old, .int .u64 B.last.new, .bool B.last.done], .int .i64 4, .int .i64 cell, .int .u64 via, .int .u64 0, .int .u64 v] w fun e w' =>
      RefRet P (B.add cell via v).1 (B.add cell via v).2 e w w' := by
  cases hh : B.has cell
  · obtain ⟨a, cap, rfl⟩ := SlP.form hs
    have e : B.add cell via v = (⟨B.cells, wrap64 (B.count + 1), ⟨4, cell, via, 0, 0, false⟩⟩, ⟨4, cell, via, 0, 0, false⟩) := by
      unfold Bk.add Bk.access; rw [hh]; rfl
    rw [e]
    exact (ref_add_out B cell via v a cap w (has_out hh)).mono fun e w' h => ⟨_, h.1, h.2, SlP.fr0 hs h.2⟩
  · have hi := has_in hh
    obtain ⟨ad, cap, rfl⟩ := SlP.some_ hs (by omega)
    have e : B.add cell via v = (⟨setI B.cells cell (IntKind.u64.wrap (getI B.cells cell + v)), wrap64 (B.count + 1), ⟨4, cell, via, getI B.cells cell, IntKind.u64.wrap (getI B.cells cell + v), true⟩⟩, ⟨4, cell, via, getI B.cells cell, IntKind.u64.wrap (getI B.cells cell + v), true⟩) := by
      unfold Bk.add Bk.access fAdd; rw [hh, IntKind.wrap_u64]; rfl
    rw [e]
    by_cases hv : IntKind.u64.wrap (getI B.cells cell + v) = getI B.cells cell
    · rw [hv]
      exact (ref_add_same B cell via v _ ad cap w hi.1 hi.2 hs.1 rfl hv).mono fun e w' h => ⟨_, h.1, h.2, SlP.same (SlP.fr0 hs h.2) rfl⟩
    · exact (ref_add_diff B cell via v _ _ ad cap w hi.1 hi.2 hs.1 rfl rfl hv hlen).mono fun e w' ⟨g, gc, h1, h2, h3⟩ => ⟨_, h1, h2, SlP.mono h3 hP⟩
end Go.Proofs.Ytaddjigmdeejlaa
