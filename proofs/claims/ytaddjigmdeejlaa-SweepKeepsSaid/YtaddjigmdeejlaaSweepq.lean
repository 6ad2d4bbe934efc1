/- What a sweep comes to, in plain words. -/
import Derived.Test.YtaddjigmdeejlaaSweepp
import Derived.Test.YtaddjigmdeejlaaClaimq
namespace Go.Proofs.Ytaddjigmdeejlaa
open Go.RowKit Go.Ss

structure Sst where
  s : Sw
  m : Mm
  g : Gd
def Sst.step (x : Sst) : Sst := ⟨(x.s.step x.m x.g).1, (x.s.step x.m x.g).2.1, (x.s.step x.m x.g).2.2⟩
def Sst.runs : Nat → Sst → Sst
  | 0, x => x
  | n + 1, x => (Sst.runs n x).step
theorem Sst.runs_add (a b : Nat) (x : Sst) : Sst.runs (a + b) x = Sst.runs b (Sst.runs a x) := by
  induction b with
  | zero => rfl
  | succ b ih => show (Sst.runs (a + b) x).step = _; rw [ih]; rfl
structure Sst.Ok (x : Sst) (c : Cfg) : Prop where
  s : x.s.Ok c
  m : x.m.Ok
  c : x.m.c = c
theorem Mm.reserve_ok {M : Mm} (h : M.Ok) (t s era : Int) (e0 : 0 ≤ era) (e1 : era < 18446744073709551616) : (M.reserve t s era).Ok := h.store _ _ _ e0 e1
theorem Mm.reserved_ok {M : Mm} (h : M.Ok) (t s : Int) : (M.reserved t s).1.Ok := h.load _ _
theorem Mm.back_ok {M : Mm} (h : M.Ok) (x : Int) : (Mm.back M x).Ok := by
  have hg := (hgen_bd x).2
  have := sAfter_bd (hgen x) M.c.last hg
  exact h.store _ _ _ this.1 (by omega)
theorem Sw.step_mok {S : Sw} {M : Mm} {G : Gd} (h : M.Ok) : (S.step M G).2.1.Ok := by
  unfold Sw.step
  split
  · exact h
  · exact Mm.reserve_ok h _ _ _ (by omega) (by omega)
  · exact Mm.reserved_ok h _ _
  · exact Mm.back_ok h _
theorem Sst.Ok.step {x : Sst} {c : Cfg} (h : x.Ok c) : x.step.Ok c := by
  have hc := h.c
  subst hc
  exact ⟨Sw.step_ok h.m h.s, Sw.step_mok h.m, Sw.step_c _ _ _⟩
theorem Sst.Ok.runs {x : Sst} {c : Cfg} (h : x.Ok c) (n : Nat) : (Sst.runs n x).Ok c := by
  induction n with
  | zero => exact h
  | succ n ih => exact ih.step

/-! ### clearing -/
def clrM (t : Int) (M : Mm) : Nat → Mm
  | 0 => M
  | j + 1 => (clrM t M j).reserve t j 0
theorem clrM_c (t : Int) (M : Mm) (j : Nat) : (clrM t M j).c = M.c := by
  induction j with
  | zero => rfl
  | succ j ih => exact ih
theorem Sst.clear_run (l : List En) (M : Mm) (G : Gd) (n : Nat) (hn : M.c.slots = n) : ∀ j, j < n →
    Sst.runs j ⟨Sw.new l, M, G⟩ = ⟨⟨.clear j, l, []⟩, clrM G.thread M j, G⟩ := by
  intro j
  induction j with
  | zero => intro _; rfl
  | succ j ih =>
    intro hj
    show (Sst.runs j _).step = _
    rw [ih (by omega)]
    show Sst.mk (Sw.clearC _ (j : Int) (clrM G.thread M j).c) (G.clear _ (j : Int)).2 (G.clear _ (j : Int)).1 = _
    rw [clrM_c]
    unfold Sw.clearC
    rw [if_pos (by omega)]
    unfold Gd.clear
    rw [clrM_c, if_neg (by omega)]
    rfl
theorem Sst.clear_end (l : List En) (M : Mm) (G : Gd) (n : Nat) (hn : M.c.slots = n) (h1 : 1 ≤ n) :
    Sst.runs n ⟨Sw.new l, M, G⟩ = ⟨⟨if M.c.keep ≤ (l.length : Int) then .look else .done, l, []⟩, clrM G.thread M n, ⟨0, 0, G.thread⟩⟩ := by
  obtain ⟨j, rfl⟩ : ∃ j, n = j + 1 := ⟨n - 1, by omega⟩
  show (Sst.runs j _).step = _
  rw [Sst.clear_run l M G (j + 1) hn j (by omega)]
  show Sst.mk (Sw.clearC _ (j : Int) (clrM G.thread M j).c) (G.clear _ (j : Int)).2 (G.clear _ (j : Int)).1 = _
  rw [clrM_c]
  unfold Sw.clearC
  rw [if_neg (show ¬ ((j : Int) + 1 < M.c.slots) by omega)]
  unfold Gd.clear
  rw [clrM_c, if_pos (show (j : Int) = M.c.slots - 1 by omega)]
  rfl

/-! ### looking -/
def seenM (M : Mm) : Nat → Mm
  | 0 => M
  | j + 1 => ((seenM M j).reserved ((j : Int) / M.c.slots) ((j : Int) % M.c.slots)).1
def seenL (c : Cfg) (cells : List Int) (n : Nat) : List Int := (List.range n).map fun (j : Nat) => getI cells (c.resv ((j : Int) / c.slots) ((j : Int) % c.slots))
theorem seenL_length (c : Cfg) (cells : List Int) (n : Nat) : (seenL c cells n).length = n := by simp [seenL]
theorem seenL_succ (c : Cfg) (cells : List Int) (n : Nat) : seenL c cells (n + 1) = seenL c cells n ++ [getI cells (c.resv ((n : Int) / c.slots) ((n : Int) % c.slots))] := by simp [seenL, List.range_succ]
theorem seenM_c (M : Mm) (j : Nat) : (seenM M j).c = M.c := by
  induction j with
  | zero => rfl
  | succ j ih => exact ih
theorem seenM_cells (M : Mm) (j : Nat) : (seenM M j).b.cells = M.b.cells := by
  induction j with
  | zero => rfl
  | succ j ih => exact (Bk.load_cells _ _ _).trans ih
theorem seenM_ok {M : Mm} (h : M.Ok) (j : Nat) : (seenM M j).Ok := by
  induction j with
  | zero => exact h
  | succ j ih => exact Mm.reserved_ok ih _ _
theorem div_bd {c : Cfg} (hc : c.R) {j : Nat} (hj : (j : Int) < c.threads * c.slots) : 0 ≤ (j : Int) / c.slots ∧ (j : Int) / c.slots < c.threads ∧ 0 ≤ (j : Int) % c.slots ∧ (j : Int) % c.slots < c.slots := by
  have hs := hc.s0
  refine ⟨Int.ediv_nonneg (by omega) (by omega), Int.ediv_lt_of_lt_mul (by omega) hj, Int.emod_nonneg _ (by omega), Int.emod_lt_of_pos _ (by omega)⟩
theorem seen_val {M : Mm} (ok : M.Ok) {j : Nat} (hj : (j : Int) < M.c.threads * M.c.slots) : ((seenM M j).reserved ((j : Int) / M.c.slots) ((j : Int) % M.c.slots)).2 = getI M.b.cells (M.c.resv ((j : Int) / M.c.slots) ((j : Int) % M.c.slots)) := by
  have h := div_bd ok.r hj
  have := reserved_val (seenM_ok ok j) (t := (j : Int) / M.c.slots) (s := (j : Int) % M.c.slots) h.1 (by rw [seenM_c]; exact h.2.1) h.2.2.1 (by rw [seenM_c]; exact h.2.2.2)
  rw [this, seenM_cells, seenM_c]
theorem Sst.look_run (l : List En) (M : Mm) (G : Gd) (ok : M.Ok) (n : Nat) (hn : M.c.threads * M.c.slots = n) : ∀ j, j < n →
    Sst.runs j ⟨⟨.look, l, []⟩, M, G⟩ = ⟨⟨.look, l, seenL M.c M.b.cells j⟩, seenM M j, G⟩ := by
  intro j
  induction j with
  | zero => intro _; rfl
  | succ j ih =>
    intro hj
    show (Sst.runs j _).step = _
    rw [ih (by omega)]
    have hv := seen_val ok (j := j) (by omega)
    have e1 : (⟨.look, l, seenL M.c M.b.cells j⟩ : Sw).lookR (seenM M j) = (seenM M j).reserved ((j : Int) / M.c.slots) ((j : Int) % M.c.slots) := by
      unfold Sw.lookR; rw [seenM_c]; simp only [seenL_length]
    show Sst.mk (Sw.lookC _ (seenM M j).c (Sw.lookR _ (seenM M j)).2) (Sw.lookR _ (seenM M j)).1 G = _
    rw [e1, hv, seenM_c]
    unfold Sw.lookC
    simp only [seenL_length]
    rw [if_pos (by omega), ← seenL_succ]
    rfl
theorem Sst.look_end (l : List En) (M : Mm) (G : Gd) (ok : M.Ok) (n : Nat) (hn : M.c.threads * M.c.slots = n) (h1 : 1 ≤ n) :
    Sst.runs n ⟨⟨.look, l, []⟩, M, G⟩ = ⟨⟨freeSt (drop_ l (seenL M.c M.b.cells n)), keep l (seenL M.c M.b.cells n), seenL M.c M.b.cells n⟩, seenM M n, G⟩ := by
  obtain ⟨j, rfl⟩ : ∃ j, n = j + 1 := ⟨n - 1, by omega⟩
  show (Sst.runs j _).step = _
  rw [Sst.look_run l M G ok (j + 1) hn j (by omega)]
  have hv := seen_val ok (j := j) (by omega)
  have e1 : (⟨.look, l, seenL M.c M.b.cells j⟩ : Sw).lookR (seenM M j) = (seenM M j).reserved ((j : Int) / M.c.slots) ((j : Int) % M.c.slots) := by
    unfold Sw.lookR; rw [seenM_c]; simp only [seenL_length]
  show Sst.mk (Sw.lookC _ (seenM M j).c (Sw.lookR _ (seenM M j)).2) (Sw.lookR _ (seenM M j)).1 G = _
  rw [e1, hv, seenM_c]
  unfold Sw.lookC
  simp only [seenL_length]
  rw [if_neg (by omega), ← seenL_succ]
  rfl

/-! ### letting go -/
def backs (M : Mm) (o : List En) : Mm := o.foldl (fun m e => Mm.back m e.node) M
theorem Sst.free_run (l : List En) (seen : List Int) (G : Gd) : ∀ (o : List En) (M : Mm), Sst.runs o.length ⟨⟨freeSt o, l, seen⟩, M, G⟩ = ⟨⟨.done, l, seen⟩, backs M o, G⟩ := by
  intro o
  induction o with
  | nil => intro M; rfl
  | cons e o ih =>
    intro M
    have h := Sst.runs_add 1 o.length ⟨⟨freeSt (e :: o), l, seen⟩, M, G⟩
    rw [show (e :: o).length = 1 + o.length by simp; omega, h]
    exact ih (Mm.back M e.node)
theorem Sst.free_not (l : List En) (seen : List Int) (G : Gd) : ∀ (o : List En) (M : Mm) (j : Nat), j < o.length → (Sst.runs j ⟨⟨freeSt o, l, seen⟩, M, G⟩).s.st.isDone = false := by
  intro o
  induction o with
  | nil => intro M j hj; simp at hj
  | cons e o ih =>
    intro M j hj
    cases j with
    | zero => rfl
    | succ j =>
      have h := Sst.runs_add 1 j ⟨⟨freeSt (e :: o), l, seen⟩, M, G⟩
      rw [show j + 1 = 1 + j by omega, h]
      exact ih (Mm.back M e.node) j (by simpa using hj)

/-- the whole: where few are left, and where many are -/
theorem Sst.all_few (l : List En) (M : Mm) (G : Gd) (n : Nat) (hn : M.c.slots = n) (h1 : 1 ≤ n) (hk : ¬ M.c.keep ≤ (l.length : Int)) :
    Sst.runs n ⟨Sw.new l, M, G⟩ = ⟨⟨.done, l, []⟩, clrM G.thread M n, ⟨0, 0, G.thread⟩⟩ ∧ ∀ j, j < n → (Sst.runs j ⟨Sw.new l, M, G⟩).s.st.isDone = false := by
  refine ⟨by rw [Sst.clear_end l M G n hn h1, if_neg hk], fun j hj => ?_⟩
  rw [Sst.clear_run l M G n hn j hj]; rfl
theorem clrM_ok {M : Mm} (h : M.Ok) (t : Int) (j : Nat) : (clrM t M j).Ok := by
  induction j with
  | zero => exact h
  | succ j ih => exact Mm.reserve_ok ih _ _ _ (by omega) (by omega)

/-- what a thread sees behind clearing -/
def seenOf (M : Mm) (t : Int) (n T : Nat) : List Int := seenL M.c (clrM t M n).b.cells T
theorem Sst.all_many (l : List En) (M : Mm) (G : Gd) (ok : M.Ok) (n T : Nat) (hn : M.c.slots = n) (hT : M.c.threads * M.c.slots = T) (h1 : 1 ≤ n) (hk : M.c.keep ≤ (l.length : Int)) :
    Sst.runs (n + T + (drop_ l (seenOf M G.thread n T)).length) ⟨Sw.new l, M, G⟩ = ⟨⟨.done, keep l (seenOf M G.thread n T), seenOf M G.thread n T⟩, backs (seenM (clrM G.thread M n) T) (drop_ l (seenOf M G.thread n T)), ⟨0, 0, G.thread⟩⟩ ∧
      ∀ j, j < n + T + (drop_ l (seenOf M G.thread n T)).length → (Sst.runs j ⟨Sw.new l, M, G⟩).s.st.isDone = false := by
  have hb := slots_bd ok.r
  have ok2 := clrM_ok ok G.thread n
  have hc2 : (clrM G.thread M n).c = M.c := clrM_c _ _ _
  have e1 := Sst.clear_end l M G n hn h1
  rw [if_pos hk] at e1
  have e2 := Sst.look_end l (clrM G.thread M n) ⟨0, 0, G.thread⟩ ok2 T (by rw [hc2]; exact hT) (by omega)
  have hs : seenL (clrM G.thread M n).c (clrM G.thread M n).b.cells T = seenOf M G.thread n T := by unfold seenOf; rw [hc2]
  rw [hs] at e2
  refine ⟨?_, fun j hj => ?_⟩
  · rw [Sst.runs_add, Sst.runs_add, e1, e2, Sst.free_run]
  · by_cases h2 : j < n
    · rw [Sst.clear_run l M G n hn j h2]; rfl
    · by_cases h3 : j < n + T
      · rw [show j = n + (j - n) by omega, Sst.runs_add, e1, Sst.look_run l _ _ ok2 T (by rw [hc2]; exact hT) (j - n) (by omega)]; rfl
      · rw [show j = (n + T) + (j - n - T) by omega, Sst.runs_add, Sst.runs_add, e1, e2]
        exact Sst.free_not _ _ _ _ _ _ (by omega)
end Go.Proofs.Ytaddjigmdeejlaa
