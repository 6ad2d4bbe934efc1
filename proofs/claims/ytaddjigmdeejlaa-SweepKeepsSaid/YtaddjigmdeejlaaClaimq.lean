/- A claim that is alone gets a slot just if one is free: the plain law. -/
import Derived.Test.YtaddjigmdeejlaaClaimp
import Derived.Test.YtaddjigmdeejlaaAid
namespace Go.Ss
open Go.Proofs.Ytaddjigmdeejlaa

/-- a state of the claim, and the words, after so many steps -/
def Cl.runs : Nat → Cl × Mm → Cl × Mm
  | 0, s => s
  | n + 1, s => (Cl.runs n s).1.step (Cl.runs n s).2
theorem Cl.runs_front (n : Nat) (s : Cl × Mm) : Cl.runs (n + 1) s = Cl.runs n (s.1.step s.2) := by
  induction n with
  | zero => rfl
  | succ n ih => rw [Cl.runs, ih]; rfl
theorem Cl.runs_done (n : Nat) (C : Cl) (M : Mm) (h : C.st = .done) : Cl.runs n (C, M) = (C, M) := by
  induction n with
  | zero => rfl
  | succ n ih => rw [Cl.runs, ih]; unfold Cl.step; simp only [h]
theorem Cl.runs_c (n : Nat) (s : Cl × Mm) : (Cl.runs n s).2.c = s.2.c := by
  induction n with
  | zero => rfl
  | succ n ih => rw [Cl.runs, Cl.step_c, ih]

theorem meta_range {c : Cfg} (hc : c.R) {i : Int} (h0 : 0 ≤ i) (h1 : i ≤ c.cap) : 0 ≤ c.cell i 0 ∧ c.cell i 0 < c.len := by
  have hb := hc.cell_bd i 0
  have hf := hc.fields_bd
  have hfb := hc.first_bd
  have e : c.cell i 0 = c.first + i * c.fields + 0 := by unfold Cfg.cell; rw [if_pos ⟨h0, h1, by omega, by omega⟩]
  have := mul_bd (a := i) (b := c.fields) (A := 64) (B := 12) h0 (by have := hc.c1; omega) (by omega) (by omega)
  omega
theorem meta_ne {c : Cfg} (hc : c.R) {i j : Int} (h0 : 0 ≤ i) (h1 : i ≤ c.cap) (k0 : 0 ≤ j) (k1 : j ≤ c.cap) (h : i ≠ j) : c.cell i 0 ≠ c.cell j 0 := by
  have hf := hc.fields_bd
  have e : c.cell i 0 = c.first + i * c.fields + 0 := by unfold Cfg.cell; rw [if_pos ⟨h0, h1, by omega, by omega⟩]
  have e' : c.cell j 0 = c.first + j * c.fields + 0 := by unfold Cfg.cell; rw [if_pos ⟨k0, k1, by omega, by omega⟩]
  intro he
  rw [e, e'] at he
  have : i * c.fields = j * c.fields := by omega
  exact h (Int.eq_of_mul_eq_mul_right (by omega) this)
theorem Mm.meta_val {M : Mm} (ok : M.Ok) {i : Int} (h0 : 0 ≤ i) (h1 : i ≤ M.c.cap) : (M.meta_ i).2 = getI M.b.cells (M.c.cell i 0) := by
  have h := meta_range ok.r h0 h1
  exact Bk.load_old _ h.1 (by rw [ok.len]; exact h.2)
theorem Mm.meta_cells (M : Mm) (i : Int) : (M.meta_ i).1.b.cells = M.b.cells := Bk.load_cells _ _ _
theorem Mm.meta_ok {M : Mm} (ok : M.Ok) (i : Int) : (M.meta_ i).1.Ok := ok.load _ _
theorem Mm.take_yes {M : Mm} (ok : M.Ok) {i v : Int} (h0 : 0 ≤ i) (h1 : i ≤ M.c.cap) (old : Int) (e : getI M.b.cells (M.c.cell i 0) = old) : (M.take i old v).2 = true ∧ (M.take i old v).1.b.cells = setI M.b.cells (M.c.cell i 0) v := by
  have h := meta_range ok.r h0 h1
  have hh := Bk.has_of (B := M.b) h.1 (by rw [ok.len]; exact h.2)
  unfold Mm.take Bk.swap Bk.access fSwap
  rw [if_pos hh]
  simp only [e, if_true]
  exact ⟨trivial, trivial⟩

/-- what a claim that was alone has come to: no slot was free, or one is taken -/
def Alone9 (c : Cfg) (cells : List Int) (s : Cl × Mm) : Prop :=
  s.1.st = .done ∧ s.2.c = c ∧
  ((s.1.got = 0 ∧ s.2.b.cells = cells ∧ ∀ i, 1 ≤ i → i ≤ c.cap → sState (getI cells (c.cell i 0)) ≠ 0) ∨
   ∃ i, 1 ≤ i ∧ i ≤ c.cap ∧ sState (getI cells (c.cell i 0)) = 0 ∧ s.1.got = packW i (sGen (getI cells (c.cell i 0))) ∧
     s.2.b.cells = setI cells (c.cell i 0) (sMeta 1 (sGen (getI cells (c.cell i 0)))))

def ringAt (start cap j : Int) : Int := (start - 1 + j) % cap + 1
theorem ringAt_bd (start cap j : Int) (h : 1 ≤ cap) : 1 ≤ ringAt start cap j ∧ ringAt start cap j ≤ cap := by
  unfold ringAt
  have := Int.emod_nonneg (start - 1 + j) (b := cap) (by omega)
  have := Int.emod_lt_of_pos (start - 1 + j) (b := cap) (by omega)
  omega
theorem ringAt_succ (start cap j : Int) (h : 1 ≤ cap) : ringAt start cap j % cap + 1 = ringAt start cap (j + 1) := by
  unfold ringAt
  have e : start - 1 + (j + 1) = (start - 1 + j) + 1 := by omega
  rw [e, Int.emod_add_emod]
theorem ringAt_onto (start cap i : Int) (h : 1 ≤ cap) (i0 : 1 ≤ i) (i1 : i ≤ cap) : ∃ j, 0 ≤ j ∧ j < cap ∧ ringAt start cap j = i := by
  refine ⟨(i - start) % cap, Int.emod_nonneg _ (by omega), Int.emod_lt_of_pos _ (by omega), ?_⟩
  unfold ringAt
  rw [Int.add_emod_emod]
  have e : start - 1 + (i - start) = i - 1 := by omega
  rw [e, Int.emod_eq_of_lt (by omega) (by omega)]; omega

theorem alone9_look (c : Cfg) (cells : List Int) (start : Int) (d : Nat) : ∀ (C : Cl) (M : Mm), C.st = .look → M.c = c → M.b.cells = cells → M.Ok → C.got = 0 → 0 ≤ C.looked → c.cap - C.looked = d → 0 < d →
    C.atOf c.cap = ringAt start c.cap C.looked → (∀ j, 0 ≤ j → j < C.looked → sState (getI cells (c.cell (ringAt start c.cap j) 0)) ≠ 0) → Alone9 c cells (Cl.runs (d + 1) (C, M)) := by
  induction d with
  | zero => intro C M _ _ _ _ _ _ _ h; exact absurd h (by omega)
  | succ d ih =>
    intro C M hst hMc hcells ok hgot hl0 hd _ hat hno
    subst hMc
    have m0 := ok.r.c0
    have hb := ringAt_bd start M.c.cap C.looked m0
    rw [Cl.runs_front]
    have es : C.step M = C.lookS M := by unfold Cl.step; simp only [hst]
    show Alone9 M.c cells (Cl.runs (d + 1) (C.step M))
    rw [es]
    have hval : (M.meta_ (C.atOf M.c.cap)).2 = getI cells (M.c.cell (ringAt start M.c.cap C.looked) 0) := by
      rw [Mm.meta_val ok (by rw [hat]; omega) (by rw [hat]; omega), hat, hcells]
    by_cases hs : sState (getI cells (M.c.cell (ringAt start M.c.cap C.looked) 0)) = 0
    · have e1 : C.lookS M = (⟨.take, C.from_, ringAt start M.c.cap C.looked, C.looked, getI cells (M.c.cell (ringAt start M.c.cap C.looked) 0), C.got, C.next⟩, (M.meta_ (C.atOf M.c.cap)).1) := by
        unfold Cl.lookS Cl.lookC; rw [hval, if_pos hs, hat]
      rw [e1, Cl.runs_front]
      have hM1 : (M.meta_ (C.atOf M.c.cap)).1.c = M.c := rfl
      have hMc : (M.meta_ (C.atOf M.c.cap)).1.b.cells = cells := (Mm.meta_cells _ _).trans hcells
      have ok1 := Mm.meta_ok ok (C.atOf M.c.cap)
      generalize (M.meta_ (C.atOf M.c.cap)).1 = M1 at *
      generalize hx : getI cells (M.c.cell (ringAt start M.c.cap C.looked) 0) = x at *
      have hy := Mm.take_yes ok1 (i := ringAt start M.c.cap C.looked) (v := sMeta 1 (sGen x)) (by omega) (by rw [hM1]; omega) x (by rw [hM1, hMc]; exact hx)
      have e2 : Cl.step ⟨.take, C.from_, ringAt start M.c.cap C.looked, C.looked, x, C.got, C.next⟩ M1 =
          (⟨.done, C.from_, ringAt start M.c.cap C.looked, C.looked, x, packW (ringAt start M.c.cap C.looked) (sGen x), ringAt start M.c.cap C.looked % M1.c.cap + 1⟩, (M1.take (ringAt start M.c.cap C.looked) x (sMeta 1 (sGen x))).1) := by
        show Cl.takeS _ _ = _
        unfold Cl.takeS Cl.takeC
        simp only [hy.1, if_true]
      show Alone9 M.c cells (Cl.runs d (Cl.step ⟨.take, C.from_, ringAt start M.c.cap C.looked, C.looked, x, C.got, C.next⟩ M1))
      rw [e2, Cl.runs_done _ _ _ rfl]
      refine ⟨rfl, hM1, .inr ⟨ringAt start M.c.cap C.looked, hb.1, hb.2, by rw [hx]; exact hs, by rw [hx], ?_⟩⟩
      show (M1.take _ x _).1.b.cells = _
      rw [hy.2, hM1, hMc, hx]
    · have e1 : C.lookS M = (Cl.goes ⟨C.st, C.from_, ringAt start M.c.cap C.looked, C.looked, getI cells (M.c.cell (ringAt start M.c.cap C.looked) 0), C.got, C.next⟩ M.c.cap, (M.meta_ (C.atOf M.c.cap)).1) := by
        unfold Cl.lookS Cl.lookC; rw [hval, if_neg hs, hat]
      rw [e1]
      have hMc : (M.meta_ (C.atOf M.c.cap)).1.b.cells = cells := (Mm.meta_cells _ _).trans hcells
      have ok1 := Mm.meta_ok ok (C.atOf M.c.cap)
      have hno' : ∀ j, 0 ≤ j → j < C.looked + 1 → sState (getI cells (M.c.cell (ringAt start M.c.cap j) 0)) ≠ 0 := by
        intro j j0 j1
        by_cases hj : j = C.looked
        · rw [hj]; exact hs
        · exact hno j j0 (by omega)
      by_cases hend : M.c.cap ≤ C.looked + 1
      · have e2 : Cl.goes ⟨C.st, C.from_, ringAt start M.c.cap C.looked, C.looked, getI cells (M.c.cell (ringAt start M.c.cap C.looked) 0), C.got, C.next⟩ M.c.cap = ⟨.done, C.from_, ringAt start M.c.cap C.looked % M.c.cap + 1, C.looked + 1, getI cells (M.c.cell (ringAt start M.c.cap C.looked) 0), C.got, C.next⟩ := by
          unfold Cl.goes; rw [if_pos hend]
        rw [e2, Cl.runs_done _ _ _ rfl]
        refine ⟨rfl, rfl, .inl ⟨hgot, hMc, fun i i0 i1 => ?_⟩⟩
        obtain ⟨j, j0, j1, rfl⟩ := ringAt_onto start M.c.cap i m0 i0 i1
        exact hno' j j0 (by omega)
      · have e2 : Cl.goes ⟨C.st, C.from_, ringAt start M.c.cap C.looked, C.looked, getI cells (M.c.cell (ringAt start M.c.cap C.looked) 0), C.got, C.next⟩ M.c.cap = ⟨.look, C.from_, ringAt start M.c.cap C.looked % M.c.cap + 1, C.looked + 1, getI cells (M.c.cell (ringAt start M.c.cap C.looked) 0), C.got, C.next⟩ := by
          unfold Cl.goes; rw [if_neg hend]
        rw [e2]
        refine ih _ _ rfl rfl hMc ok1 hgot (by show 0 ≤ C.looked + 1; omega) (by show M.c.cap - (C.looked + 1) = _; omega) (by omega) ?_ hno'
        show (if 0 < ringAt start M.c.cap C.looked % M.c.cap + 1 then ringAt start M.c.cap C.looked % M.c.cap + 1 else _) = _
        rw [if_pos (by have := Int.emod_nonneg (ringAt start M.c.cap C.looked) (b := M.c.cap) (by omega); omega)]
        exact ringAt_succ _ _ _ m0

theorem alone9 (M : Mm) (ok : M.Ok) (from_ : Int) (n : Nat) (hn : M.c.cap = n) : Alone9 M.c M.b.cells (Cl.runs (n + 1) (Cl.new from_, M)) := by
  have m0 := ok.r.c0
  refine alone9_look M.c M.b.cells ((Cl.new from_).atOf M.c.cap) n (Cl.new from_) M rfl rfl rfl ok rfl (Int.le_refl _) (by show M.c.cap - 0 = _; omega) (by omega) ?_ (fun j j0 j1 => absurd j1 (by show ¬ j < 0; omega))
  have hb : 1 ≤ (Cl.new from_).atOf M.c.cap ∧ (Cl.new from_).atOf M.c.cap ≤ M.c.cap := by
    unfold Cl.atOf Cl.new; simp only []
    rw [if_neg (by omega)]; split <;> omega
  show _ = ((Cl.new from_).atOf M.c.cap - 1 + 0) % M.c.cap + 1
  rw [Int.emod_eq_of_lt (by omega) (by omega)]; omega

/-- the words of the slots from 1 on -/
def metasOf (c : Cfg) (cells : List Int) (n : Nat) : List Int := (List.range n).map fun (k : Nat) => getI cells (c.cell ((k : Int) + 1) 0)
theorem metasOf_length (c : Cfg) (cells : List Int) (n : Nat) : (metasOf c cells n).length = n := by simp [metasOf]
theorem metasOf_succ (c : Cfg) (cells : List Int) (n : Nat) : metasOf c cells (n + 1) = metasOf c cells n ++ [getI cells (c.cell ((n : Int) + 1) 0)] := by simp [metasOf, List.range_succ]
theorem metasOf_get (c : Cfg) (cells : List Int) (n k : Nat) (h : k < n) : (metasOf c cells n).getD k 0 = getI cells (c.cell ((k : Int) + 1) 0) := by
  rw [List.getD_eq_getElem?_getD]; simp [metasOf, h]

/-- how many of the first k slots are free -/
def frees (c : Cfg) (cells : List Int) : Nat → Nat
  | 0 => 0
  | k + 1 => frees c cells k + (if sState (getI cells (c.cell ((k : Int) + 1) 0)) = 0 then 1 else 0)
theorem frees_le (c : Cfg) (cells : List Int) (k : Nat) : frees c cells k ≤ k := by
  induction k with
  | zero => exact Nat.le_refl _
  | succ k ih => rw [frees]; split <;> omega
theorem frees_none (c : Cfg) (cells : List Int) (n : Nat) (h : ∀ i, 1 ≤ i → i ≤ (n : Int) → sState (getI cells (c.cell i 0)) ≠ 0) : ∀ k, k ≤ n → frees c cells k = 0 := by
  intro k
  induction k with
  | zero => intro _; rfl
  | succ k ih => intro hk; rw [frees, ih (by omega), if_neg (h _ (by omega) (by omega))]
theorem frees_some (c : Cfg) (cells : List Int) (i : Nat) (h : sState (getI cells (c.cell ((i : Int) + 1) 0)) = 0) : ∀ k, i < k → 1 ≤ frees c cells k := by
  intro k
  induction k with
  | zero => intro h; cases h
  | succ k ih =>
    intro hk
    rw [frees]
    by_cases e : i = k
    · subst e; rw [if_pos h]; omega
    · have := ih (by omega); omega
end Go.Ss
