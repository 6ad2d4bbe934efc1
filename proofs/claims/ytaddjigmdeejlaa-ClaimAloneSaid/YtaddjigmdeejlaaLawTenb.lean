/- GuardStands, the walk: behind a publish its era stands in a reservation. -/
import Derived.Test.YtaddjigmdeejlaaLawTena
namespace Go.Proofs.Ytaddjigmdeejlaa
open Go.RowKit Go.Ss

/-- what stands, and since when -/
structure GInv (c : Cfg) (t : Int) (G : Gd) (M : Mm) (s : List Int) : Prop where
  mc : M.c = c
  th : G.thread = t
  many : G.many = s.length
  le : (s.length : Int) ≤ c.slots
  at_ : ∀ j : Nat, j < s.length → getI M.b.cells (c.resv t j) = s.getD j 0

theorem GInv.start (c : Cfg) (hc : c.R) (t : Int) (M : Mm) (hM : M.c = c) : GInv c t ⟨0, 0, t⟩ M [] :=
  ⟨hM, rfl, rfl, by have := hc.s0; show (0 : Int) ≤ _; omega, fun j hj => by cases hj⟩

theorem GInv.next {c : Cfg} {t : Int} {G : Gd} {M : Mm} {s : List Int} (h : GInv c t G M s) (ok : M.Ok) (t0 : 0 ≤ t) (t1 : t < c.threads) (era : Int) :
    GInv c t (G.publish M era).1 (G.publish M era).2.1 ((if (G.publish M era).2.2 = true then s else []) ++ [era]) := by
  have hc : c.R := h.mc ▸ ok.r
  have hs0 := hc.s0
  have hle := h.le
  have hmc := h.mc
  have hmany := h.many
  have hth := h.th
  by_cases hlt : G.many < c.slots
  · have e3 : (G.publish M era).2.2 = true := by show nStays _ _ = true; unfold nStays; rw [hmc]; exact decide_eq_true hlt
    have e1 : nSlot G.many M.c.slots = s.length := by unfold nSlot; rw [hmc, if_pos hlt, hmany]
    have e2 : nMany G.many M.c.slots = s.length + 1 := by unfold nMany; rw [hmc, if_pos hlt, hmany]
    rw [e3, if_pos rfl]
    refine ⟨hmc, hth, ?_, by simp; omega, ?_⟩
    · show nMany _ _ = _; rw [e2]; simp
    · intro j hj
      have hcell : (G.publish M era).2.1.b.cells = setI M.b.cells (c.resv t s.length) era := by
        show (M.reserve G.thread (nSlot G.many M.c.slots) era).b.cells = _
        rw [e1, hth, reserve_cells ok era t0 (by rw [hmc]; exact t1) (by omega) (by rw [hmc]; omega), hmc]
      rw [hcell]
      have hr1 := resv_range hc t0 t1 (s := (s.length : Int)) (by omega) (by omega)
      simp only [List.length_append, List.length_cons, List.length_nil] at hj
      by_cases hj' : j = s.length
      · subst hj'
        rw [getI_setI_same _ (by omega) (by rw [ok.len, hmc]; omega)]
        simp
      · have hr2 := resv_range hc t0 t1 (s := (j : Int)) (by omega) (by omega)
        have hne : c.resv t s.length ≠ c.resv t j := by
          rw [resv_eq t0 t1 (by omega) (by omega), resv_eq t0 t1 (by omega) (by omega)]; omega
        rw [getI_setI_ne _ (by omega) (by omega) hne, h.at_ j (by omega)]
        rw [List.getD_eq_getElem?_getD, List.getD_eq_getElem?_getD, List.getElem?_append_left (by omega)]
  · have e3 : (G.publish M era).2.2 = false := by show nStays _ _ = false; unfold nStays; rw [hmc]; exact decide_eq_false hlt
    have e1 : nSlot G.many M.c.slots = 0 := by unfold nSlot; rw [hmc, if_neg hlt]
    have e2 : nMany G.many M.c.slots = 1 := by unfold nMany; rw [hmc, if_neg hlt]
    rw [e3, if_neg (by simp), List.nil_append]
    refine ⟨hmc, hth, e2, by simp; omega, ?_⟩
    intro j hj
    have hj0 : j = 0 := by simp at hj; omega
    subst hj0
    have hcell : (G.publish M era).2.1.b.cells = setI M.b.cells (c.resv t 0) era := by
      show (M.reserve G.thread (nSlot G.many M.c.slots) era).b.cells = _
      rw [e1, hth, reserve_cells ok era t0 (by rw [hmc]; exact t1) (by omega) (by rw [hmc]; omega), hmc]
    rw [hcell]
    have hr1 := resv_range hc t0 t1 (s := (0 : Int)) (by omega) (by omega)
    show getI _ (c.resv t 0) = era
    rw [getI_setI_same _ (by omega) (by rw [ok.len, hmc]; omega)]

theorem GInv.sim {c : Cfg} {t : Int} {G : Gd} {M M' : Mm} {s : List Int} (h : GInv c t G M s) (h1 : M'.c = c) (h2 : M'.b.cells = M.b.cells) : GInv c t G M' s :=
  ⟨h1, h.th, h.many, h.le, fun j hj => by rw [h2]; exact h.at_ j hj⟩

/-- does one of the first k reservations have x? -/
def anyB (c : Cfg) (cells : List Int) (t x : Int) (k : Nat) : Bool := (List.range k).any fun (r : Nat) => getI cells (c.resv t r) == x
theorem anyB_zero (c : Cfg) (cells : List Int) (t x : Int) : anyB c cells t x 0 = false := rfl
theorem anyB_succ (c : Cfg) (cells : List Int) (t x : Int) (k : Nat) : anyB c cells t x (k + 1) = (anyB c cells t x k || getI cells (c.resv t k) == x) := by
  unfold anyB; rw [List.range_succ, List.any_append]; simp
theorem GInv.any {c : Cfg} {t : Int} {G : Gd} {M : Mm} {s : List Int} (h : GInv c t G M s) (j : Nat) (hj : j < s.length) (n : Nat) (hn : c.slots = n) : anyB c M.b.cells t (s.getD j 0) n = true := by
  unfold anyB
  rw [List.any_eq_true]
  exact ⟨j, List.mem_range.2 (by have := h.le; omega), by rw [beq_iff_eq]; exact h.at_ j hj⟩
end Go.Proofs.Ytaddjigmdeejlaa
