/- The access of a bank, whatever the kind: what the plain definition says. -/
import Derived.Test.YtaddjigmdeejlaaPlanb
namespace Go.Proofs.Ytaddjigmdeejlaa
open Go.RowKit Go.Ss

structure BankAt (w : World) (bb bc : Nat) (B : Bk) : Prop where
  bank : Blk w bb #[.slice (some ⟨bc, 0, none⟩) B.cells.length B.cells.length, .int .i64 B.count, .int .i64 B.last.kind, .int .i64 B.last.cell, .int .u64 B.last.via, .int .u64 B.last.old, .int .u64 B.last.new, .bool B.last.done] 158
  cells : Blk w bc (B.cells.map (Value.int .u64)).toArray 26
  ne : bb ≠ bc
  ws : Ws B.cells
  sz : B.cells.length ≤ 100000

theorem BankAt.fr {S : List Nat} {w w' : World} {bb bc : Nat} {B : Bk} (h : BankAt w bb bc B) (f : Fr S w w') (h1 : bb ∉ S) (h2 : bc ∉ S) : BankAt w' bb bc B :=
  ⟨h.bank.fr f h1, h.cells.fr f h2, h.ne, h.ws, h.sz⟩
theorem BankAt.fr0 {w w' : World} {bb bc : Nat} {B : Bk} (h : BankAt w bb bc B) (f : Fr [] w w') : BankAt w' bb bc B := h.fr f (by simp) (by simp)

theorem words_get (l : List Int) (i : Int) (h0 : 0 ≤ i) (h1 : i < (l.length : Int)) : ((l.map (Value.int .u64)).toArray)[i.toNat]? = some (.int .u64 (getI l i)) := by
  have : i.toNat < l.length := by omega
  simp [getI, this]

/-- what the end of an access writes: the bank's count and last access, and the result -/
def accTail (W : World) (R bb : Nat) (cnt : Int) (a : Acc) : World :=
  ((((((((((((W.setCell ⟨bb, 1, none⟩ (.int .i64 (wrap64 (cnt + 1)))).setCell ⟨bb, 2, none⟩ (.int .i64 a.kind)).setCell ⟨bb, 3, none⟩ (.int .i64 a.cell)).setCell ⟨bb, 4, none⟩ (.int .u64 a.via)).setCell ⟨bb, 5, none⟩ (.int .u64 a.old)).setCell ⟨bb, 6, none⟩ (.int .u64 a.new)).setCell ⟨bb, 7, none⟩ (.bool a.done)).setCell
    ⟨R, 0, none⟩ (.int .i64 a.kind)).setCell ⟨R, 1, none⟩ (.int .i64 a.cell)).setCell ⟨R, 2, none⟩ (.int .u64 a.via)).setCell ⟨R, 3, none⟩ (.int .u64 a.old)).setCell ⟨R, 4, none⟩ (.int .u64 a.new)).setCell ⟨R, 5, none⟩ (.bool a.done)

theorem accTail_fr {S : List Nat} {w W : World} {R bb : Nat} (h : Fr S w W) (hb : bb ∈ S) (hR : w.heap.size ≤ R) (cnt : Int) (a : Acc) : Fr S w (accTail W R bb cnt a) := by
  unfold accTail
  exact ((((((((((((h.setM hb _).setM hb _).setM hb _).setM hb _).setM hb _).setM hb _).setM hb _).setN hR _).setN hR _).setN hR _).setN hR _).setN hR _).setN hR _

theorem accTail_bank {W : World} {R bb bc n : Nat} {cnt : Int} {a0 : Acc} (hn : bb ≠ R)
    (h : Blk W bb #[.slice (some ⟨bc, 0, none⟩) n n, .int .i64 cnt, .int .i64 a0.kind, .int .i64 a0.cell, .int .u64 a0.via, .int .u64 a0.old, .int .u64 a0.new, .bool a0.done] 158) (a : Acc) :
    Blk (accTail W R bb cnt a) bb #[.slice (some ⟨bc, 0, none⟩) n n, .int .i64 (wrap64 (cnt + 1)), .int .i64 a.kind, .int .i64 a.cell, .int .u64 a.via, .int .u64 a.old, .int .u64 a.new, .bool a.done] 158 := by
  have h1 := ((((((h.setCell 1 (.int .i64 (wrap64 (cnt + 1)))).setCell 2 (.int .i64 a.kind)).setCell 3 (.int .i64 a.cell)).setCell 4 (.int .u64 a.via)).setCell 5 (.int .u64 a.old)).setCell 6 (.int .u64 a.new)).setCell 7 (.bool a.done)
  simp only [List.setIfInBounds_toArray, List.set_cons_succ, List.set_cons_zero] at h1
  exact (((((h1.setCell_ne hn _).setCell_ne hn _).setCell_ne hn _).setCell_ne hn _).setCell_ne hn _).setCell_ne hn _

theorem accTail_other {W : World} {R bb b T : Nat} {vs : Array Value} {cnt : Int} (h1 : b ≠ bb) (h2 : b ≠ R) (h : Blk W b vs T) (a : Acc) : Blk (accTail W R bb cnt a) b vs T := by
  unfold accTail
  exact ((((((((((((h.setCell_ne h1 _).setCell_ne h1 _).setCell_ne h1 _).setCell_ne h1 _).setCell_ne h1 _).setCell_ne h1 _).setCell_ne h1 _).setCell_ne h2 _).setCell_ne h2 _).setCell_ne h2 _).setCell_ne h2 _).setCell_ne h2 _).setCell_ne h2 _

theorem accTail_res {W : World} {R bb T : Nat} {cnt : Int} {v0 v1 v2 v3 v4 v5 : Value} (hn : R ≠ bb) (h : Blk W R #[v0, v1, v2, v3, v4, v5] T) (a : Acc) :
    Blk (accTail W R bb cnt a) R #[.int .i64 a.kind, .int .i64 a.cell, .int .u64 a.via, .int .u64 a.old, .int .u64 a.new, .bool a.done] T := by
  have h1 := ((((((h.setCell_ne (p := ⟨bb, 1, none⟩) hn (.int .i64 (wrap64 (cnt + 1)))).setCell_ne (p := ⟨bb, 2, none⟩) hn (.int .i64 a.kind)).setCell_ne (p := ⟨bb, 3, none⟩) hn (.int .i64 a.cell)).setCell_ne (p := ⟨bb, 4, none⟩) hn (.int .u64 a.via)).setCell_ne (p := ⟨bb, 5, none⟩) hn (.int .u64 a.old)).setCell_ne (p := ⟨bb, 6, none⟩) hn (.int .u64 a.new)).setCell_ne (p := ⟨bb, 7, none⟩) hn (.bool a.done)
  have h2 := (((((h1.setCell 0 (.int .i64 a.kind)).setCell 1 (.int .i64 a.cell)).setCell 2 (.int .u64 a.via)).setCell 3 (.int .u64 a.old)).setCell 4 (.int .u64 a.new)).setCell 5 (.bool a.done)
  simp only [List.setIfInBounds_toArray, List.set_cons_succ, List.set_cons_zero] at h2
  exact h2

set_option maxRecDepth 100000 in
set_option maxHeartbeats 2000000 in
theorem access_load_in (bb bc : Nat) (B : Bk) (cell via : Int) (w : World) (hb : BankAt w bb bc B) (h0 : 0 ≤ cell) (h1 : cell < (B.cells.length : Int)) :
    Calls Try.prog 153 #[.pointer (some ⟨bb, 0, none⟩), .agg #[.int .i64 1, .int .i64 cell, .int .u64 via, .int .u64 0, .int .u64 0, .bool false], .func (.func 154) #[] #[]] w fun e w' =>
      e = .returned (.agg #[.int .i64 (B.load cell via ).2.kind, .int .i64 (B.load cell via ).2.cell, .int .u64 (B.load cell via ).2.via, .int .u64 (B.load cell via ).2.old, .int .u64 (B.load cell via ).2.new, .bool (B.load cell via ).2.done]) ∧ Fr [bb, bc] w w' ∧ BankAt w' bb bc (B.load cell via ).1 := by
  obtain ⟨W0, hW0⟩ : ∃ W, w.alloc (.cells #[.int .i64 1, .int .i64 cell, .int .u64 via, .int .u64 0, .int .u64 0, .bool false] 95) = W := ⟨_, rfl⟩
  have hB0 : Blk W0 w.heap.size #[.int .i64 1, .int .i64 cell, .int .u64 via, .int .u64 0, .int .u64 0, .bool false] 95 := hW0 ▸ Blk.new _ _ _
  have F0 : Fr [] w W0 := hW0 ▸ (Fr.refl _ _).alloc _
  have hBc0 : ∀ w', Fr [] W0 w' → ∀ i, w'.cell? ⟨w.heap.size, i, none⟩ = _ := fun w' h i => (hB0.fr0 h).cell i
  have hBr0 := Fr.refl [] W0
  obtain ⟨W1, hW1⟩ : ∃ W, W0.alloc (.cells #[.int .i64 0, .int .i64 0, .int .u64 0, .int .u64 0, .int .u64 0, .bool false] 95) = W := ⟨_, rfl⟩
  have hB1 : Blk W1 W0.heap.size #[.int .i64 0, .int .i64 0, .int .u64 0, .int .u64 0, .int .u64 0, .bool false] 95 := hW1 ▸ Blk.new _ _ _
  have F1 : Fr [] W0 W1 := hW1 ▸ (Fr.refl _ _).alloc _
  have hBc1 : ∀ w', Fr [] W1 w' → ∀ i, w'.cell? ⟨W0.heap.size, i, none⟩ = _ := fun w' h i => (hB1.fr0 h).cell i
  have hBr1 := Fr.refl [] W1
  have hb1 := hb.fr0 (F0.trans F1)
  have hcell := words_get B.cells cell h0 h1
  have hbc : ∀ w', Fr [] W1 w' → ∀ i, w'.cell? ⟨bb, i, none⟩ = _ := fun w' h i => (hb1.bank.fr0 h).cell i
  have hcc : ∀ w', Fr [] W1 w' → w'.cell? ⟨bc, cell.toNat, none⟩ = some (.int .u64 (getI B.cells cell)) := fun w' h => ((hb1.cells.fr0 h).cell _).trans hcell
  have hN : ∀ w', Fr [] W1 w' → ∀ i, w'.cell? ⟨w.heap.size, i, none⟩ = _ := fun w' h i => ((hB0.fr0 F1).fr0 h).cell i
  have hx := hb.ws.getI cell
  have hhas : B.has cell = true := by unfold Bk.has; rw [decide_eq_true h0, decide_eq_true h1]; rfl
  
  generalize hg : getI B.cells cell = x at *
  have HG := Lib.hid hg; clear hg
  have HH := Lib.hid hhas; clear hhas
  go_enter Try.func153, Try.ntmps153
  go_wp2_with fail
  go_region_held3 (fun w' => Fr [] W1 w') (repeat (first | assumption | exact Fr.refl _ _ | refine Fr.drew ?_ | refine Fr.set1 ?_ _ | refine Fr.alloc ?_ _ | refine Fr.drewN ?_ _ | exact Fr.nil (by assumption))) (first | fail)
  go_wp2_with fail
  go_region_held3 (fun w' => Fr [] W1 w') (repeat (first | assumption | exact Fr.refl _ _ | refine Fr.drew ?_ | refine Fr.set1 ?_ _ | refine Fr.alloc ?_ _ | refine Fr.drewN ?_ _ | exact Fr.nil (by assumption))) (first | fail)
  go_wp2_with fail
  go_wp2
  obtain ⟨W2, hW2⟩ : ∃ W, W1.drew.drew = W := ⟨_, rfl⟩
  have F2 : Fr [] W1 W2 := hW2 ▸ (Fr.refl _ _).drew.drew
  go_wp2_with fail
  rw [hW2]
  have hb2 := hb1.fr0 F2
  have hN2 := (hB0.fr0 F1).fr0 F2
  have hR2 := hB1.fr0 F2
  have hbN : bb ≠ w.heap.size := by have := hb.bank.lt; omega
  have hcN : bc ≠ w.heap.size := by have := hb.cells.lt; omega
  have hbR : bb ≠ W0.heap.size := by have := hb.bank.lt; have := F0.size; omega
  have hcR : bc ≠ W0.heap.size := by have := hb.cells.lt; have := F0.size; omega
  have hNR : w.heap.size ≠ W0.heap.size := by have := hB0.lt; omega
  have hne := hb.ne
  clear hBc0 hBc1 hbc hcc hN hBr0 hBr1
  have hbc : ∀ w', Fr [bc] W2 w' → ∀ i, w'.cell? ⟨bb, i, none⟩ = _ := fun w' h i => (hb2.bank.fr h (by simpa using hne)).cell i
  have hNc : ∀ w', Fr [bc] W2 w' → ∀ i, w'.cell? ⟨w.heap.size, i, none⟩ = _ := fun w' h i => (hN2.fr h (by simpa using Ne.symm hcN)).cell i
  have hs : W2.cell? ⟨bc, cell.toNat, none⟩ = some (.int .u64 x) := (hb2.cells.cell _).trans hcell
  have hfz := hb2.cells.frozen
  have hfr := Fr.refl [bc] W2
  go_region_held3 (fun w' => Fr [bc] W2 w') (repeat (first | assumption | exact Fr.refl _ _ | refine Fr.drew ?_ | refine Fr.set1 ?_ _ | refine Fr.alloc ?_ _ | refine Fr.drewN ?_ _ | exact Fr.nil (by assumption))) (first | fail)
  obtain ⟨W3, hW3⟩ : ∃ W, (W2.setCell ⟨bc, cell.toNat, none⟩ (.int .u64 (x))).drew = W := ⟨_, rfl⟩
  rw [hW3]
  have F3 : Fr [bc] W2 W3 := hW3 ▸ (Fr.set1 (Fr.refl _ _) _).drew
  have hb3 := hb2.bank.fr F3 (by simpa using hne)
  have hN3 := hN2.fr F3 (by simpa using Ne.symm hcN)
  have hR3 := hR2.fr F3 (by simpa using Ne.symm hcR)
  have hC3 : Blk W3 bc ((setI B.cells cell (x)).map (Value.int .u64)).toArray 26 := by
    have := hb2.cells.setCell cell.toNat (.int .u64 (x))
    rw [← hW3]; unfold setI
    have h2 := this.drew
    simpa [List.map_set] using h2
  have F4 : Fr [bb, bc] w W3 := ((F0.trans F1).trans F2).nil.trans (F3.mono (by simp))
  clear hbc hNc hs hfz hfr hW2 hW3 hB0 hB1 hW0 hW1 hb1 hb2 hN2 hR2 hcell
  have c1 := hb3.cell
  have c2 := hN3.cell
  have c3 := hR3.cell
  have z1 := hb3.frozen
  have z2 := hN3.frozen
  have z3 := hR3.frozen
  go_wp2
  have hR0 : w.heap.size ≤ W0.heap.size := F0.size
  have F5 : Fr [bb, bc] w (((W3.setCell ⟨w.heap.size, 3, none⟩ (.int .u64 x)).setCell ⟨w.heap.size, 4, none⟩ (.int .u64 (x))).setCell ⟨w.heap.size, 5, none⟩ (.bool (true))) := ((F4.setN (Nat.le_refl _) _).setN (Nat.le_refl _) _).setN (Nat.le_refl _) _
  have hb5 : Blk (((W3.setCell ⟨w.heap.size, 3, none⟩ (.int .u64 x)).setCell ⟨w.heap.size, 4, none⟩ (.int .u64 (x))).setCell ⟨w.heap.size, 5, none⟩ (.bool (true))) bb _ _ := ((hb3.setCell_ne hbN _).setCell_ne hbN _).setCell_ne hbN _
  have hc5 : Blk (((W3.setCell ⟨w.heap.size, 3, none⟩ (.int .u64 x)).setCell ⟨w.heap.size, 4, none⟩ (.int .u64 (x))).setCell ⟨w.heap.size, 5, none⟩ (.bool (true))) bc _ _ := ((hC3.setCell_ne hcN _).setCell_ne hcN _).setCell_ne hcN _
  have e : B.load cell via  = (⟨setI B.cells cell (x), wrap64 (B.count + 1), ⟨1, cell, via, x, x, true⟩⟩, ⟨1, cell, via, x, x, true⟩) := by
    unfold Bk.load Bk.access; rw [if_pos HH.out, HG.out]; rfl
  rw [e]
  have hr5 : Blk (((W3.setCell ⟨w.heap.size, 3, none⟩ (.int .u64 x)).setCell ⟨w.heap.size, 4, none⟩ (.int .u64 (x))).setCell ⟨w.heap.size, 5, none⟩ (.bool (true))) W0.heap.size _ _ := ((hR3.setCell_ne (Ne.symm hNR) _).setCell_ne (Ne.symm hNR) _).setCell_ne (Ne.symm hNR) _
  have hres := (accTail_res (cnt := B.count) (Ne.symm hbR) hr5 ⟨1, cell, via, x, x, true⟩).cell
  refine bodyPost_ret (w := accTail (((W3.setCell ⟨w.heap.size, 3, none⟩ (.int .u64 x)).setCell ⟨w.heap.size, 4, none⟩ (.int .u64 (x))).setCell ⟨w.heap.size, 5, none⟩ (.bool (true))) W0.heap.size bb B.count ⟨1, cell, via, x, x, true⟩) (v := .agg #[.int .i64 1, .int .i64 cell, .int .u64 via, .int .u64 x, .int .u64 (x), .bool (true)]) (by simp [results, Try.results153, go_sem, hres]) rfl ⟨rfl, accTail_fr F5 (by simp) hR0 B.count ⟨1, cell, via, x, x, true⟩, ?_⟩
  refine ⟨?_, accTail_other hne.symm hcR hc5 _, hne, hb.ws.setI _ _ hx.1 hx.2, by simpa [setI] using hb.sz⟩
  have := accTail_bank hbR hb5 ⟨1, cell, via, x, x, true⟩
  rw [show (setI B.cells cell (x)).length = B.cells.length from setI_length _ _ _]
  exact this

set_option maxRecDepth 100000 in
set_option maxHeartbeats 2000000 in
theorem access_load_out (bb bc : Nat) (B : Bk) (cell via : Int) (w : World) (hb : BankAt w bb bc B) (h0 : ¬ (0 ≤ cell ∧ cell < (B.cells.length : Int))) :
    Calls Try.prog 153 #[.pointer (some ⟨bb, 0, none⟩), .agg #[.int .i64 1, .int .i64 cell, .int .u64 via, .int .u64 0, .int .u64 0, .bool false], .func (.func 154) #[] #[]] w fun e w' =>
      e = .returned (.agg #[.int .i64 (B.load cell via ).2.kind, .int .i64 (B.load cell via ).2.cell, .int .u64 (B.load cell via ).2.via, .int .u64 (B.load cell via ).2.old, .int .u64 (B.load cell via ).2.new, .bool (B.load cell via ).2.done]) ∧ Fr [bb, bc] w w' ∧ BankAt w' bb bc (B.load cell via ).1 := by
  obtain ⟨W0, hW0⟩ : ∃ W, w.alloc (.cells #[.int .i64 1, .int .i64 cell, .int .u64 via, .int .u64 0, .int .u64 0, .bool false] 95) = W := ⟨_, rfl⟩
  have hB0 : Blk W0 w.heap.size #[.int .i64 1, .int .i64 cell, .int .u64 via, .int .u64 0, .int .u64 0, .bool false] 95 := hW0 ▸ Blk.new _ _ _
  have F0 : Fr [] w W0 := hW0 ▸ (Fr.refl _ _).alloc _
  have hBc0 : ∀ w', Fr [] W0 w' → ∀ i, w'.cell? ⟨w.heap.size, i, none⟩ = _ := fun w' h i => (hB0.fr0 h).cell i
  have hBr0 := Fr.refl [] W0
  obtain ⟨W1, hW1⟩ : ∃ W, W0.alloc (.cells #[.int .i64 0, .int .i64 0, .int .u64 0, .int .u64 0, .int .u64 0, .bool false] 95) = W := ⟨_, rfl⟩
  have hB1 : Blk W1 W0.heap.size #[.int .i64 0, .int .i64 0, .int .u64 0, .int .u64 0, .int .u64 0, .bool false] 95 := hW1 ▸ Blk.new _ _ _
  have F1 : Fr [] W0 W1 := hW1 ▸ (Fr.refl _ _).alloc _
  have hBc1 : ∀ w', Fr [] W1 w' → ∀ i, w'.cell? ⟨W0.heap.size, i, none⟩ = _ := fun w' h i => (hB1.fr0 h).cell i
  have hBr1 := Fr.refl [] W1
  have hb1 := hb.fr0 (F0.trans F1)
  have hbc : ∀ w', Fr [] W1 w' → ∀ i, w'.cell? ⟨bb, i, none⟩ = _ := fun w' h i => (hb1.bank.fr0 h).cell i
  have hN : ∀ w', Fr [] W1 w' → ∀ i, w'.cell? ⟨w.heap.size, i, none⟩ = _ := fun w' h i => ((hB0.fr0 F1).fr0 h).cell i
  have hhas : B.has cell = false := by
    unfold Bk.has; rw [Bool.and_eq_false_iff]
    by_cases h : 0 ≤ cell
    · right; simp; omega
    · left; simp; omega
  have HH := Lib.hid hhas; clear hhas
  have hbN : bb ≠ w.heap.size := by have := hb.bank.lt; omega
  have hcN : bc ≠ w.heap.size := by have := hb.cells.lt; omega
  have hbR : bb ≠ W0.heap.size := by have := hb.bank.lt; have := F0.size; omega
  have hcR : bc ≠ W0.heap.size := by have := hb.cells.lt; have := F0.size; omega
  have hNR : w.heap.size ≠ W0.heap.size := by have := hB0.lt; omega
  have hne := hb.ne
  have e : B.load cell via  = (⟨B.cells, wrap64 (B.count + 1), ⟨1, cell, via, 0, 0, false⟩⟩, ⟨1, cell, via, 0, 0, false⟩) := by
    unfold Bk.load Bk.access; rw [if_neg (by rw [HH.out]; simp)]
  rw [e]
  have HE := Lib.hid e; clear e
  have hif : cell < 0 ∨ (0 ≤ cell ∧ (B.cells.length : Int) ≤ cell) := by omega
  clear h0
  rcases hif with hif | ⟨h0, h1⟩
  · have hd : decide (0 ≤ cell) = false := decide_eq_false (by omega)
    go_enter Try.func153, Try.ntmps153
    go_wp2_with fail
    go_quiet (fail)
    obtain ⟨W3, hW3⟩ : ∃ W, W1.drewN nq = W := ⟨_, rfl⟩
    rw [hW3]
    have F2 : Fr [] W1 W3 := hW3 ▸ (Fr.refl _ _).drewN _
    have hb3 := hb1.fr0 F2
    have hN3 := (hB0.fr0 F1).fr0 F2
    have hR3 := hB1.fr0 F2
    have F4 : Fr [bb, bc] w W3 := ((F0.trans F1).trans F2).nil
    clear hBc0 hBc1 hbc hN hBr0 hBr1 hW3 hB0 hB1 hW0 hW1 hb1
    have c1 := hb3.bank.cell
    have c2 := hN3.cell
    have c3 := hR3.cell
    have z1 := hb3.bank.frozen
    have z2 := hN3.frozen
    have z3 := hR3.frozen
    go_wp2
    have hR0 : w.heap.size ≤ W0.heap.size := F0.size
    have hres := (accTail_res (cnt := B.count) (Ne.symm hbR) hR3 ⟨1, cell, via, 0, 0, false⟩).cell
    refine bodyPost_ret (w := accTail W3 W0.heap.size bb B.count ⟨1, cell, via, 0, 0, false⟩) (v := .agg #[.int .i64 1, .int .i64 cell, .int .u64 via, .int .u64 0, .int .u64 0, .bool false]) (by simp [results, Try.results153, go_sem, hres]) rfl ⟨rfl, accTail_fr F4 (by simp) hR0 B.count ⟨1, cell, via, 0, 0, false⟩, ?_⟩
    refine ⟨?_, accTail_other hne.symm hcR hb3.cells _, hne, hb.ws, hb.sz⟩
    exact accTail_bank hbR hb3.bank ⟨1, cell, via, 0, 0, false⟩

  · have hd : decide (cell < (B.cells.length : Int)) = false := decide_eq_false (by omega)
    go_enter Try.func153, Try.ntmps153
    go_wp2_with fail
    go_region_held3 (fun w' => Fr [] W1 w') (repeat (first | assumption | exact Fr.refl _ _ | refine Fr.drew ?_ | refine Fr.set1 ?_ _ | refine Fr.alloc ?_ _ | refine Fr.drewN ?_ _ | exact Fr.nil (by assumption))) (first | fail)
    obtain ⟨W3, hW3⟩ : ∃ W, W1.drew = W := ⟨_, rfl⟩
    rw [hW3]
    have F2 : Fr [] W1 W3 := hW3 ▸ (Fr.refl _ _).drew
    have hb3 := hb1.fr0 F2
    have hN3 := (hB0.fr0 F1).fr0 F2
    have hR3 := hB1.fr0 F2
    have F4 : Fr [bb, bc] w W3 := ((F0.trans F1).trans F2).nil
    clear hBc0 hBc1 hbc hN hBr0 hBr1 hW3 hB0 hB1 hW0 hW1 hb1
    have c1 := hb3.bank.cell
    have c2 := hN3.cell
    have c3 := hR3.cell
    have z1 := hb3.bank.frozen
    have z2 := hN3.frozen
    have z3 := hR3.frozen
    go_wp2
    have hR0 : w.heap.size ≤ W0.heap.size := F0.size
    have hres := (accTail_res (cnt := B.count) (Ne.symm hbR) hR3 ⟨1, cell, via, 0, 0, false⟩).cell
    refine bodyPost_ret (w := accTail W3 W0.heap.size bb B.count ⟨1, cell, via, 0, 0, false⟩) (v := .agg #[.int .i64 1, .int .i64 cell, .int .u64 via, .int .u64 0, .int .u64 0, .bool false]) (by simp [results, Try.results153, go_sem, hres]) rfl ⟨rfl, accTail_fr F4 (by simp) hR0 B.count ⟨1, cell, via, 0, 0, false⟩, ?_⟩
    refine ⟨?_, accTail_other hne.symm hcR hb3.cells _, hne, hb.ws, hb.sz⟩
    exact accTail_bank hbR hb3.bank ⟨1, cell, via, 0, 0, false⟩

end Go.Proofs.Ytaddjigmdeejlaa
