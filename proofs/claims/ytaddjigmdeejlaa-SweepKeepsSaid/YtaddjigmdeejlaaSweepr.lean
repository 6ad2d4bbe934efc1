/- Reservations and slots' words behind what is done to a world, in plain words. -/
import Derived.Test.YtaddjigmdeejlaaSweepq
import Derived.Test.YtaddjigmdeejlaaSlots
namespace Go.Proofs.Ytaddjigmdeejlaa
open Go.RowKit Go.Ss

def res (M : Mm) (t s : Int) : Int := getI M.b.cells (M.c.resv t s)
def met (M : Mm) (i : Int) : Int := getI M.b.cells (M.c.cell i 0)

theorem resv_inj {c : Cfg} (hc : c.R) {t s t' s' : Int} (t0 : 0 ≤ t) (t1 : t < c.threads) (s0 : 0 ≤ s) (s1 : s < c.slots) (u0 : 0 ≤ t') (u1 : t' < c.threads) (v0 : 0 ≤ s') (v1 : s' < c.slots) (h : c.resv t s = c.resv t' s') : t = t' ∧ s = s' := by
  rw [resv_eq t0 t1 s0 s1, resv_eq u0 u1 v0 v1] at h
  have hs := hc.s0
  have e1 : (t * c.slots + s) / c.slots = t := by rw [Int.add_comm, Int.add_mul_ediv_right _ _ (by omega), Int.ediv_eq_zero_of_lt s0 s1]; omega
  have e2 : (t' * c.slots + s') / c.slots = t' := by rw [Int.add_comm, Int.add_mul_ediv_right _ _ (by omega), Int.ediv_eq_zero_of_lt v0 v1]; omega
  have e3 : t * c.slots + s = t' * c.slots + s' := by omega
  rw [e3, e2] at e1
  subst e1
  exact ⟨rfl, by omega⟩
theorem resv_out {c : Cfg} {t s : Int} (h : ¬ (0 ≤ t ∧ t < c.threads ∧ 0 ≤ s ∧ s < c.slots)) : c.resv t s = -1 := if_neg h
theorem cell_ge {c : Cfg} (hc : c.R) {i f : Int} (h0 : 0 ≤ i) (h1 : i ≤ c.cap) (f0 : 0 ≤ f) (f1 : f < c.fields) : c.first ≤ c.cell i f ∧ c.cell i f < c.len := by
  have hf := hc.fields_bd
  have e : c.cell i f = c.first + i * c.fields + f := if_pos ⟨h0, h1, f0, f1⟩
  have := mul_bd (a := i) (b := c.fields) (A := 64) (B := 12) h0 (by have := hc.c1; omega) (by omega) (by omega)
  have := hc.cell_bd i f
  omega
theorem resv_cell {c : Cfg} (hc : c.R) {t s i f : Int} (h0 : 0 ≤ i) (h1 : i ≤ c.cap) (f0 : 0 ≤ f) (f1 : f < c.fields) : c.resv t s ≠ c.cell i f := by
  have := hc.resv_bd t s
  have := cell_ge hc h0 h1 f0 f1
  omega
theorem Bk.has_neg (B : Bk) : B.has (-1) = false := by unfold Bk.has; simp
theorem store_neg (B : Bk) (v x : Int) : (B.store (-1) v x).1.cells = B.cells := by
  unfold Bk.store Bk.access; rw [Bk.has_neg]; rfl
theorem reserve_get {M : Mm} (ok : M.Ok) {t s era t' s' : Int} (u0 : 0 ≤ t') (u1 : t' < M.c.threads) (v0 : 0 ≤ s') (v1 : s' < M.c.slots) :
    res (M.reserve t s era) t' s' = if t = t' ∧ s = s' then era else res M t' s' := by
  by_cases h : 0 ≤ t ∧ t < M.c.threads ∧ 0 ≤ s ∧ s < M.c.slots
  · obtain ⟨t0, t1, s0, s1⟩ := h
    have e := reserve_cells ok era t0 t1 s0 s1
    have hr := resv_range ok.r t0 t1 s0 s1
    have hr' := resv_range ok.r u0 u1 v0 v1
    show getI (M.reserve t s era).b.cells (M.c.resv t' s') = _
    rw [e]
    by_cases hh : t = t' ∧ s = s'
    · rw [if_pos hh]; obtain ⟨rfl, rfl⟩ := hh
      exact getI_setI_same _ (by omega) (by rw [ok.len]; omega)
    · rw [if_neg hh]
      exact getI_setI_ne _ (by omega) (by omega) (fun h => hh (resv_inj ok.r t0 t1 s0 s1 u0 u1 v0 v1 h))
  · have e : (M.reserve t s era).b.cells = M.b.cells := by
      show (M.b.store (M.c.resv t s) 0 era).1.cells = _
      rw [resv_out h]; exact store_neg _ _ _
    rw [if_neg (by rintro ⟨rfl, rfl⟩; exact h ⟨u0, u1, v0, v1⟩)]
    show getI (M.reserve t s era).b.cells (M.c.resv t' s') = _
    rw [e]; rfl
theorem reserve_met {M : Mm} (ok : M.Ok) {t s era i : Int} (h0 : 0 ≤ i) (h1 : i ≤ M.c.cap) : met (M.reserve t s era) i = met M i := by
  have hf := ok.r.fields_bd
  by_cases h : 0 ≤ t ∧ t < M.c.threads ∧ 0 ≤ s ∧ s < M.c.slots
  · obtain ⟨t0, t1, s0, s1⟩ := h
    have e := reserve_cells ok era t0 t1 s0 s1
    have hr := resv_range ok.r t0 t1 s0 s1
    show getI (M.reserve t s era).b.cells (M.c.cell i 0) = _
    rw [e]
    exact getI_setI_ne _ (by omega) (meta_range ok.r h0 h1).1 (resv_cell ok.r h0 h1 (by omega) (by omega))
  · have e : (M.reserve t s era).b.cells = M.b.cells := by
      show (M.b.store (M.c.resv t s) 0 era).1.cells = _
      rw [resv_out h]; exact store_neg _ _ _
    show getI (M.reserve t s era).b.cells (M.c.cell i 0) = _
    rw [e]; rfl
theorem release_cells {M : Mm} (ok : M.Ok) {i v : Int} (h0 : 0 ≤ i) (h1 : i ≤ M.c.cap) : (M.release i v).b.cells = setI M.b.cells (M.c.cell i 0) v := by
  have h := meta_range ok.r h0 h1
  exact Bk.store_cells _ _ h.1 (by rw [ok.len]; exact h.2)
theorem release_res {M : Mm} (ok : M.Ok) {i v t s : Int} (h0 : 0 ≤ i) (h1 : i ≤ M.c.cap) (u0 : 0 ≤ t) (u1 : t < M.c.threads) (v0 : 0 ≤ s) (v1 : s < M.c.slots) : res (M.release i v) t s = res M t s := by
  have hf := ok.r.fields_bd
  have hr := resv_range ok.r u0 u1 v0 v1
  show getI (M.release i v).b.cells (M.c.resv t s) = _
  rw [release_cells ok h0 h1]
  exact getI_setI_ne _ (meta_range ok.r h0 h1).1 (by omega) (resv_cell ok.r h0 h1 (by omega) (by omega)).symm
theorem release_met {M : Mm} (ok : M.Ok) {i v j : Int} (h0 : 0 ≤ i) (h1 : i ≤ M.c.cap) (k0 : 0 ≤ j) (k1 : j ≤ M.c.cap) : met (M.release i v) j = if i = j then v else met M j := by
  have h := meta_range ok.r h0 h1
  show getI (M.release i v).b.cells (M.c.cell j 0) = _
  rw [release_cells ok h0 h1]
  by_cases e : i = j
  · subst e; rw [if_pos rfl]; exact getI_setI_same _ h.1 (by rw [ok.len]; exact h.2)
  · rw [if_neg e]; exact getI_setI_ne _ h.1 (meta_range ok.r k0 k1).1 (meta_ne ok.r h0 h1 k0 k1 e)

theorem newCells_ok {c : Cfg} (hc : c.R) : (⟨c, ⟨newCells c, 0, Ss.Acc.zero⟩⟩ : Mm).Ok := by
  have hb := hc.len_bd
  have hh0 := hc.h0
  have hh1 := hc.h1
  refine ⟨hc, ?_, ?_⟩
  · show ((newCells c).length : Int) = c.len
    unfold newCells
    rw [setI_length, setI_length, setI_length, List.length_replicate]; omega
  · show Ws (newCells c)
    unfold newCells
    refine Ws.setI (Ws.setI (Ws.setI ?_ _ _ (by omega) (by omega)) _ _ (by omega) (by omega)) _ _ (by omega) (by omega)
    intro x hx; rw [List.eq_of_mem_replicate hx]; exact ⟨Int.le_refl _, by omega⟩
theorem newCells_get {c : Cfg} (hc : c.R) {k : Int} (h0 : 1 ≤ k) (h1 : k < c.len) (h2 : k ≠ c.cell 0 0) (h3 : k ≠ c.cell 0 4) : getI (newCells c) k = 0 := by
  have hf := hc.fields_bd
  have hc0 := hc.c0
  have a := cell_ge hc (i := 0) (f := 0) (by omega) (by omega) (by omega) (by omega)
  have b := cell_ge hc (i := 0) (f := 4) (by omega) (by omega) (by omega) (by omega)
  have hfi := hc.first_bd
  unfold newCells
  rw [getI_setI_ne _ (by omega) (by omega) (Ne.symm h3), getI_setI_ne _ (by omega) (by omega) (Ne.symm h2), getI_setI_ne _ (by omega) (by omega) (by omega)]
  unfold getI
  rw [List.getD_eq_getElem?_getD, List.getElem?_replicate, if_pos (by omega)]; rfl
theorem newCells_res {c : Cfg} (hc : c.R) {t s : Int} (u0 : 0 ≤ t) (u1 : t < c.threads) (v0 : 0 ≤ s) (v1 : s < c.slots) : res ⟨c, ⟨newCells c, 0, Ss.Acc.zero⟩⟩ t s = 0 := by
  have hf := hc.fields_bd
  have hc0 := hc.c0
  have hr := resv_range hc u0 u1 v0 v1
  exact newCells_get hc hr.1 hr.2 (resv_cell hc (by omega) (by omega) (by omega) (by omega)) (resv_cell hc (by omega) (by omega) (by omega) (by omega))

theorem slotsM_ok {c : Cfg} (hc : c.R) (n : Nat) : (slotsM c n).Ok := by
  induction n with
  | zero => exact newCells_ok hc
  | succ n ih => exact ih.store _ _ _ (by decide) (by decide)
theorem slotsM_res {c : Cfg} (hc : c.R) {t s : Int} (u0 : 0 ≤ t) (u1 : t < c.threads) (v0 : 0 ≤ s) (v1 : s < c.slots) (n : Nat) (hn : (n : Int) ≤ c.cap) : res (slotsM c n) t s = 0 := by
  induction n with
  | zero => exact newCells_res hc u0 u1 v0 v1
  | succ n ih =>
    have hcc := slotsM_c c n
    show res ((slotsM c n).release ((n : Int) + 1) (sMeta 1 0)) t s = 0
    rw [release_res (slotsM_ok hc n) (by omega) (by rw [hcc]; omega) u0 (by rw [hcc]; exact u1) v0 (by rw [hcc]; exact v1)]
    exact ih (by omega)
theorem slotsM_met {c : Cfg} (hc : c.R) (n : Nat) (hn : (n : Int) ≤ c.cap) (k : Nat) (hk : k < n) : met (slotsM c n) ((k : Int) + 1) = sMeta 1 0 := by
  induction n with
  | zero => omega
  | succ n ih =>
    have hcc := slotsM_c c n
    show met ((slotsM c n).release ((n : Int) + 1) (sMeta 1 0)) ((k : Int) + 1) = _
    rw [release_met (slotsM_ok hc n) (by omega) (by rw [hcc]; omega) (by omega) (by rw [hcc]; omega)]
    by_cases h : n = k
    · rw [if_pos (by omega)]
    · rw [if_neg (by omega)]; exact ih (by omega) (by omega)

theorem clrM_res {M : Mm} (ok : M.Ok) (t : Int) (n : Nat) {t' s' : Int} (u0 : 0 ≤ t') (u1 : t' < M.c.threads) (v0 : 0 ≤ s') (v1 : s' < M.c.slots) :
    res (clrM t M n) t' s' = if t = t' ∧ s' < n then 0 else res M t' s' := by
  induction n with
  | zero => rw [if_neg (by omega)]; rfl
  | succ n ih =>
    show res ((clrM t M n).reserve t n 0) t' s' = _
    rw [reserve_get (clrM_ok ok t n) u0 (by rw [clrM_c]; exact u1) v0 (by rw [clrM_c]; exact v1), ih]
    by_cases h : t = t' ∧ (n : Int) = s'
    · rw [if_pos h, if_pos (by omega)]
    · rw [if_neg h]
      by_cases h2 : t = t' ∧ s' < (n : Int)
      · rw [if_pos h2, if_pos (by omega)]
      · rw [if_neg h2, if_neg (by omega)]
theorem clrM_met {M : Mm} (ok : M.Ok) (t : Int) (n : Nat) {i : Int} (h0 : 0 ≤ i) (h1 : i ≤ M.c.cap) : met (clrM t M n) i = met M i := by
  induction n with
  | zero => rfl
  | succ n ih =>
    show met ((clrM t M n).reserve t n 0) i = _
    rw [reserve_met (clrM_ok ok t n) h0 (by rw [clrM_c]; exact h1), ih]

/-- an era that is seen stands in a reservation -/
theorem seenOf_mem {M : Mm} (ok : M.Ok) (t : Int) (n T : Nat) (hT : M.c.threads * M.c.slots = T) (hn : M.c.slots = n) {x : Int} (hx : x ∈ seenOf M t n T) :
    ∃ t' s', 0 ≤ t' ∧ t' < M.c.threads ∧ 0 ≤ s' ∧ s' < M.c.slots ∧ x = if t = t' then 0 else res M t' s' := by
  obtain ⟨j, hj, rfl⟩ := List.mem_map.1 hx
  have hj := List.mem_range.1 hj
  have hd := div_bd ok.r (j := j) (by omega)
  refine ⟨_, _, hd.1, hd.2.1, hd.2.2.1, hd.2.2.2, ?_⟩
  have h := clrM_res ok t n hd.1 hd.2.1 hd.2.2.1 hd.2.2.2
  have h2 : res (clrM t M n) ((j : Int) / M.c.slots) ((j : Int) % M.c.slots) = getI (clrM t M n).b.cells (M.c.resv ((j : Int) / M.c.slots) ((j : Int) % M.c.slots)) := by unfold res; rw [clrM_c]
  rw [← h2, h]
  by_cases e : t = (j : Int) / M.c.slots
  · rw [if_pos ⟨e, by omega⟩, if_pos e]
  · rw [if_neg (by rintro ⟨h, _⟩; exact e h), if_neg e]
theorem cov_zero {s : List Int} (h : ∀ x ∈ s, x = 0) (e : En) : cov e s = false := by
  unfold cov; rw [List.any_eq_false]; intro x hx; rw [h x hx]; simp [cov1]
theorem keep_zero {s : List Int} (h : ∀ x ∈ s, x = 0) (l : List En) : keep l s = [] := by
  unfold keep; rw [List.filter_eq_nil_iff]; intro e _; rw [cov_zero h]; simp
theorem drop_zero {s : List Int} (h : ∀ x ∈ s, x = 0) (l : List En) : drop_ l s = l := by
  unfold drop_; rw [List.filter_eq_self]; intro e _; rw [cov_zero h]; rfl
end Go.Proofs.Ytaddjigmdeejlaa
