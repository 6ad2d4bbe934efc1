/- The access of a bank: a store. -/
import Derived.Test.YtaddjigmdeejlaaBanka
namespace Go.Proofs.Ytaddjigmdeejlaa
open Go.RowKit Go.Ss

set_option maxRecDepth 100000 in
set_option maxHeartbeats 2000000 in
theorem access_store_in (bb bc : Nat) (B : Bk) (cell via v : Int) (p : Nat) (w : World) (hb : BankAt w bb bc B) (h0 : 0 ≤ cell) (h1 : cell < (B.cells.length : Int)) (hv : Blk w p #[.int .u64 v] 26) (v0 : 0 ≤ v) (v1 : v < 18446744073709551616) :
    Calls Try.prog 153 #[.pointer (some ⟨bb, 0, none⟩), .agg #[.int .i64 2, .int .i64 cell, .int .u64 via, .int .u64 0, .int .u64 0, .bool false], .func (.func 171) #[] #[.pointer (some ⟨p, 0, none⟩)]] w fun e w' =>
      e = .returned (.agg #[.int .i64 (B.store cell via v ).2.kind, .int .i64 (B.store cell via v ).2.cell, .int .u64 (B.store cell via v ).2.via, .int .u64 (B.store cell via v ).2.old, .int .u64 (B.store cell via v ).2.new, .bool (B.store cell via v ).2.done]) ∧ Fr [bb, bc] w w' ∧ BankAt w' bb bc (B.store cell via v ).1 := by
  obtain ⟨W0, hW0⟩ : ∃ W, w.alloc (.cells #[.int .i64 2, .int .i64 cell, .int .u64 via, .int .u64 0, .int .u64 0, .bool false] 95) = W := ⟨_, rfl⟩
  have hB0 : Blk W0 w.heap.size #[.int .i64 2, .int .i64 cell, .int .u64 via, .int .u64 0, .int .u64 0, .bool false] 95 := hW0 ▸ Blk.new _ _ _
  have F0 : Fr [] w W0 := hW0 ▸ (Fr.refl _ _).alloc _
  have hBc0 : ∀ w', Fr [] W0 w' → ∀ i, w'.cell? ⟨w.heap.size, i, none⟩ = _ := fun w' h i => (hB0.fr0 h).cell i
  have hBr0 := Fr.refl [] W0
  obtain ⟨W1, hW1⟩ : ∃ W, W0.alloc (.cells #[.int .i64 0, .int .i64 0, .int .u64 0, .int .u64 0, .int .u64 0, .bool false] 95) = W := ⟨_, rfl⟩
  have hB1 : Blk W1 W0.heap.size #[.int .i64 0, .int .i64 0, .int .u64 0, .int .u64 0, .int .u64 0, .bool false] 95 := hW1 ▸ Blk.new _ _ _
  have F1 : Fr [] W0 W1 := hW1 ▸ (Fr.refl _ _).alloc _
  have hBc1 : ∀ w', Fr [] W1 w' → ∀ i, w'.cell? ⟨W0.heap.size, i, none⟩ = _ := fun w' h i => (hB1.fr0 h).cell i
  have hBr1 := Fr.refl [] W1
  have hb1 := hb.fr0 (F0.trans F1)
  have hcell := words_get B.cells cell h0 h1
  have hbc : ∀ w', Fr [] W1 w' → ∀ i, w'.cell? ⟨bb, i, none⟩ = _ := fun w' h i => (hb1.bank.fr0 h).cell i
  have hcc : ∀ w', Fr [] W1 w' → w'.cell? ⟨bc, cell.toNat, none⟩ = some (.int .u64 (getI B.cells cell)) := fun w' h => ((hb1.cells.fr0 h).cell _).trans hcell
  have hN : ∀ w', Fr [] W1 w' → ∀ i, w'.cell? ⟨w.heap.size, i, none⟩ = _ := fun w' h i => ((hB0.fr0 F1).fr0 h).cell i
  have hx := hb.ws.getI cell
  have hhas : B.has cell = true := by unfold Bk.has; rw [decide_eq_true h0, decide_eq_true h1]; rfl
  
  have hpv : ∀ w', Fr [] W1 w' → ∀ i, w'.cell? ⟨p, i, none⟩ = _ := fun w' h i => (((hv.fr0 F0).fr0 F1).fr0 h).cell i
  generalize hg : getI B.cells cell = x at *
  have HG := Lib.hid hg; clear hg
  have HH := Lib.hid hhas; clear hhas
  go_enter Try.func153, Try.ntmps153
  go_wp2_with fail
  go_region_held3 (fun w' => Fr [] W1 w') (repeat (first | assumption | exact Fr.refl _ _ | refine Fr.drew ?_ | refine Fr.set1 ?_ _ | refine Fr.alloc ?_ _ | refine Fr.drewN ?_ _ | exact Fr.nil (by assumption))) (first | fail)
  go_wp2_with fail
  go_region_held3 (fun w' => Fr [] W1 w') (repeat (first | assumption | exact Fr.refl _ _ | refine Fr.drew ?_ | refine Fr.set1 ?_ _ | refine Fr.alloc ?_ _ | refine Fr.drewN ?_ _ | exact Fr.nil (by assumption))) (first | fail)
  go_wp2_with fail
  go_wp2
  obtain ⟨W2, hW2⟩ : ∃ W, W1.drew.drew = W := ⟨_, rfl⟩
  have F2 : Fr [] W1 W2 := hW2 ▸ (Fr.refl _ _).drew.drew
  go_wp2_with fail
  rw [hW2]
  have hb2 := hb1.fr0 F2
  have hN2 := (hB0.fr0 F1).fr0 F2
  have hR2 := hB1.fr0 F2
  have hbN : bb ≠ w.heap.size := by have := hb.bank.lt; omega
  have hcN : bc ≠ w.heap.size := by have := hb.cells.lt; omega
  have hbR : bb ≠ W0.heap.size := by have := hb.bank.lt; have := F0.size; omega
  have hcR : bc ≠ W0.heap.size := by have := hb.cells.lt; have := F0.size; omega
  have hNR : w.heap.size ≠ W0.heap.size := by have := hB0.lt; omega
  have hne := hb.ne
  clear hBc0 hBc1 hbc hcc hN hBr0 hBr1
  have hbc : ∀ w', Fr [bc] W2 w' → ∀ i, w'.cell? ⟨bb, i, none⟩ = _ := fun w' h i => (hb2.bank.fr h (by simpa using hne)).cell i
  have hNc : ∀ w', Fr [bc] W2 w' → ∀ i, w'.cell? ⟨w.heap.size, i, none⟩ = _ := fun w' h i => (hN2.fr h (by simpa using Ne.symm hcN)).cell i
  have hs : W2.cell? ⟨bc, cell.toNat, none⟩ = some (.int .u64 x) := (hb2.cells.cell _).trans hcell
  have hfz := hb2.cells.frozen
  have hfr := Fr.refl [bc] W2
  go_region_held3 (fun w' => Fr [bc] W2 w') (repeat (first | assumption | exact Fr.refl _ _ | refine Fr.drew ?_ | refine Fr.set1 ?_ _ | refine Fr.alloc ?_ _ | refine Fr.drewN ?_ _ | exact Fr.nil (by assumption))) (first | fail)
  obtain ⟨W3, hW3⟩ : ∃ W, (W2.setCell ⟨bc, cell.toNat, none⟩ (.int .u64 (v))).drew = W := ⟨_, rfl⟩
  rw [hW3]
  have F3 : Fr [bc] W2 W3 := hW3 ▸ (Fr.set1 (Fr.refl _ _) _).drew
  have hb3 := hb2.bank.fr F3 (by simpa using hne)
  have hN3 := hN2.fr F3 (by simpa using Ne.symm hcN)
  have hR3 := hR2.fr F3 (by simpa using Ne.symm hcR)
  have hC3 : Blk W3 bc ((setI B.cells cell (v)).map (Value.int .u64)).toArray 26 := by
    have := hb2.cells.setCell cell.toNat (.int .u64 (v))
    rw [← hW3]; unfold setI
    have h2 := this.drew
    simpa [List.map_set] using h2
  have F4 : Fr [bb, bc] w W3 := ((F0.trans F1).trans F2).nil.trans (F3.mono (by simp))
  clear hbc hNc hs hfz hfr hW2 hW3 hB0 hB1 hW0 hW1 hb1 hb2 hN2 hR2 hcell
  have c1 := hb3.cell
  have c2 := hN3.cell
  have c3 := hR3.cell
  have z1 := hb3.frozen
  have z2 := hN3.frozen
  have z3 := hR3.frozen
  go_wp2
  have hR0 : w.heap.size ≤ W0.heap.size := F0.size
  have F5 : Fr [bb, bc] w (((W3.setCell ⟨w.heap.size, 3, none⟩ (.int .u64 x)).setCell ⟨w.heap.size, 4, none⟩ (.int .u64 (v))).setCell ⟨w.heap.size, 5, none⟩ (.bool (true))) := ((F4.setN (Nat.le_refl _) _).setN (Nat.le_refl _) _).setN (Nat.le_refl _) _
  have hb5 : Blk (((W3.setCell ⟨w.heap.size, 3, none⟩ (.int .u64 x)).setCell ⟨w.heap.size, 4, none⟩ (.int .u64 (v))).setCell ⟨w.heap.size, 5, none⟩ (.bool (true))) bb _ _ := ((hb3.setCell_ne hbN _).setCell_ne hbN _).setCell_ne hbN _
  have hc5 : Blk (((W3.setCell ⟨w.heap.size, 3, none⟩ (.int .u64 x)).setCell ⟨w.heap.size, 4, none⟩ (.int .u64 (v))).setCell ⟨w.heap.size, 5, none⟩ (.bool (true))) bc _ _ := ((hC3.setCell_ne hcN _).setCell_ne hcN _).setCell_ne hcN _
  have e : B.store cell via v  = (⟨setI B.cells cell (v), wrap64 (B.count + 1), ⟨2, cell, via, x, v, true⟩⟩, ⟨2, cell, via, x, v, true⟩) := by
    unfold Bk.store Bk.access; rw [if_pos HH.out, HG.out]; rfl
  rw [e]
  have hr5 : Blk (((W3.setCell ⟨w.heap.size, 3, none⟩ (.int .u64 x)).setCell ⟨w.heap.size, 4, none⟩ (.int .u64 (v))).setCell ⟨w.heap.size, 5, none⟩ (.bool (true))) W0.heap.size _ _ := ((hR3.setCell_ne (Ne.symm hNR) _).setCell_ne (Ne.symm hNR) _).setCell_ne (Ne.symm hNR) _
  have hres := (accTail_res (cnt := B.count) (Ne.symm hbR) hr5 ⟨2, cell, via, x, v, true⟩).cell
  refine bodyPost_ret (w := accTail (((W3.setCell ⟨w.heap.size, 3, none⟩ (.int .u64 x)).setCell ⟨w.heap.size, 4, none⟩ (.int .u64 (v))).setCell ⟨w.heap.size, 5, none⟩ (.bool (true))) W0.heap.size bb B.count ⟨2, cell, via, x, v, true⟩) (v := .agg #[.int .i64 2, .int .i64 cell, .int .u64 via, .int .u64 x, .int .u64 (v), .bool (true)]) (by simp [results, Try.results153, go_sem, hres]) rfl ⟨rfl, accTail_fr F5 (by simp) hR0 B.count ⟨2, cell, via, x, v, true⟩, ?_⟩
  refine ⟨?_, accTail_other hne.symm hcR hc5 _, hne, hb.ws.setI _ _ v0 v1, by simpa [setI] using hb.sz⟩
  have := accTail_bank hbR hb5 ⟨2, cell, via, x, v, true⟩
  rw [show (setI B.cells cell (v)).length = B.cells.length from setI_length _ _ _]
  exact this

set_option maxRecDepth 100000 in
set_option maxHeartbeats 2000000 in
theorem access_store_out (bb bc : Nat) (B : Bk) (cell via v : Int) (p : Nat) (w : World) (hb : BankAt w bb bc B) (h0 : ¬ (0 ≤ cell ∧ cell < (B.cells.length : Int))) :
    Calls Try.prog 153 #[.pointer (some ⟨bb, 0, none⟩), .agg #[.int .i64 2, .int .i64 cell, .int .u64 via, .int .u64 0, .int .u64 0, .bool false], .func (.func 171) #[] #[.pointer (some ⟨p, 0, none⟩)]] w fun e w' =>
      e = .returned (.agg #[.int .i64 (B.store cell via v ).2.kind, .int .i64 (B.store cell via v ).2.cell, .int .u64 (B.store cell via v ).2.via, .int .u64 (B.store cell via v ).2.old, .int .u64 (B.store cell via v ).2.new, .bool (B.store cell via v ).2.done]) ∧ Fr [bb, bc] w w' ∧ BankAt w' bb bc (B.store cell via v ).1 := by
  obtain ⟨W0, hW0⟩ : ∃ W, w.alloc (.cells #[.int .i64 2, .int .i64 cell, .int .u64 via, .int .u64 0, .int .u64 0, .bool false] 95) = W := ⟨_, rfl⟩
  have hB0 : Blk W0 w.heap.size #[.int .i64 2, .int .i64 cell, .int .u64 via, .int .u64 0, .int .u64 0, .bool false] 95 := hW0 ▸ Blk.new _ _ _
  have F0 : Fr [] w W0 := hW0 ▸ (Fr.refl _ _).alloc _
  have hBc0 : ∀ w', Fr [] W0 w' → ∀ i, w'.cell? ⟨w.heap.size, i, none⟩ = _ := fun w' h i => (hB0.fr0 h).cell i
  have hBr0 := Fr.refl [] W0
  obtain ⟨W1, hW1⟩ : ∃ W, W0.alloc (.cells #[.int .i64 0, .int .i64 0, .int .u64 0, .int .u64 0, .int .u64 0, .bool false] 95) = W := ⟨_, rfl⟩
  have hB1 : Blk W1 W0.heap.size #[.int .i64 0, .int .i64 0, .int .u64 0, .int .u64 0, .int .u64 0, .bool false] 95 := hW1 ▸ Blk.new _ _ _
  have F1 : Fr [] W0 W1 := hW1 ▸ (Fr.refl _ _).alloc _
  have hBc1 : ∀ w', Fr [] W1 w' → ∀ i, w'.cell? ⟨W0.heap.size, i, none⟩ = _ := fun w' h i => (hB1.fr0 h).cell i
  have hBr1 := Fr.refl [] W1
  have hb1 := hb.fr0 (F0.trans F1)
  have hbc : ∀ w', Fr [] W1 w' → ∀ i, w'.cell? ⟨bb, i, none⟩ = _ := fun w' h i => (hb1.bank.fr0 h).cell i
  have hN : ∀ w', Fr [] W1 w' → ∀ i, w'.cell? ⟨w.heap.size, i, none⟩ = _ := fun w' h i => ((hB0.fr0 F1).fr0 h).cell i
  have hhas : B.has cell = false := by
    unfold Bk.has; rw [Bool.and_eq_false_iff]
    by_cases h : 0 ≤ cell
    · right; simp; omega
    · left; simp; omega
  have HH := Lib.hid hhas; clear hhas
  have hbN : bb ≠ w.heap.size := by have := hb.bank.lt; omega
  have hcN : bc ≠ w.heap.size := by have := hb.cells.lt; omega
  have hbR : bb ≠ W0.heap.size := by have := hb.bank.lt; have := F0.size; omega
  have hcR : bc ≠ W0.heap.size := by have := hb.cells.lt; have := F0.size; omega
  have hNR : w.heap.size ≠ W0.heap.size := by have := hB0.lt; omega
  have hne := hb.ne
  have e : B.store cell via v  = (⟨B.cells, wrap64 (B.count + 1), ⟨2, cell, via, 0, 0, false⟩⟩, ⟨2, cell, via, 0, 0, false⟩) := by
    unfold Bk.store Bk.access; rw [if_neg (by rw [HH.out]; simp)]
  rw [e]
  have HE := Lib.hid e; clear e
  have hif : cell < 0 ∨ (0 ≤ cell ∧ (B.cells.length : Int) ≤ cell) := by omega
  clear h0
  rcases hif with hif | ⟨h0, h1⟩
  · have hd : decide (0 ≤ cell) = false := decide_eq_false (by omega)
    go_enter Try.func153, Try.ntmps153
    go_wp2_with fail
    go_quiet (fail)
    obtain ⟨W3, hW3⟩ : ∃ W, W1.drewN nq = W := ⟨_, rfl⟩
    rw [hW3]
    have F2 : Fr [] W1 W3 := hW3 ▸ (Fr.refl _ _).drewN _
    have hb3 := hb1.fr0 F2
    have hN3 := (hB0.fr0 F1).fr0 F2
    have hR3 := hB1.fr0 F2
    have F4 : Fr [bb, bc] w W3 := ((F0.trans F1).trans F2).nil
    clear hBc0 hBc1 hbc hN hBr0 hBr1 hW3 hB0 hB1 hW0 hW1 hb1
    have c1 := hb3.bank.cell
    have c2 := hN3.cell
    have c3 := hR3.cell
    have z1 := hb3.bank.frozen
    have z2 := hN3.frozen
    have z3 := hR3.frozen
    go_wp2
    have hR0 : w.heap.size ≤ W0.heap.size := F0.size
    have hres := (accTail_res (cnt := B.count) (Ne.symm hbR) hR3 ⟨2, cell, via, 0, 0, false⟩).cell
    refine bodyPost_ret (w := accTail W3 W0.heap.size bb B.count ⟨2, cell, via, 0, 0, false⟩) (v := .agg #[.int .i64 2, .int .i64 cell, .int .u64 via, .int .u64 0, .int .u64 0, .bool false]) (by simp [results, Try.results153, go_sem, hres]) rfl ⟨rfl, accTail_fr F4 (by simp) hR0 B.count ⟨2, cell, via, 0, 0, false⟩, ?_⟩
    refine ⟨?_, accTail_other hne.symm hcR hb3.cells _, hne, hb.ws, hb.sz⟩
    exact accTail_bank hbR hb3.bank ⟨2, cell, via, 0, 0, false⟩

  · have hd : decide (cell < (B.cells.length : Int)) = false := decide_eq_false (by omega)
    go_enter Try.func153, Try.ntmps153
    go_wp2_with fail
    go_region_held3 (fun w' => Fr [] W1 w') (repeat (first | assumption | exact Fr.refl _ _ | refine Fr.drew ?_ | refine Fr.set1 ?_ _ | refine Fr.alloc ?_ _ | refine Fr.drewN ?_ _ | exact Fr.nil (by assumption))) (first | fail)
    obtain ⟨W3, hW3⟩ : ∃ W, W1.drew = W := ⟨_, rfl⟩
    rw [hW3]
    have F2 : Fr [] W1 W3 := hW3 ▸ (Fr.refl _ _).drew
    have hb3 := hb1.fr0 F2
    have hN3 := (hB0.fr0 F1).fr0 F2
    have hR3 := hB1.fr0 F2
    have F4 : Fr [bb, bc] w W3 := ((F0.trans F1).trans F2).nil
    clear hBc0 hBc1 hbc hN hBr0 hBr1 hW3 hB0 hB1 hW0 hW1 hb1
    have c1 := hb3.bank.cell
    have c2 := hN3.cell
    have c3 := hR3.cell
    have z1 := hb3.bank.frozen
    have z2 := hN3.frozen
    have z3 := hR3.frozen
    go_wp2
    have hR0 : w.heap.size ≤ W0.heap.size := F0.size
    have hres := (accTail_res (cnt := B.count) (Ne.symm hbR) hR3 ⟨2, cell, via, 0, 0, false⟩).cell
    refine bodyPost_ret (w := accTail W3 W0.heap.size bb B.count ⟨2, cell, via, 0, 0, false⟩) (v := .agg #[.int .i64 2, .int .i64 cell, .int .u64 via, .int .u64 0, .int .u64 0, .bool false]) (by simp [results, Try.results153, go_sem, hres]) rfl ⟨rfl, accTail_fr F4 (by simp) hR0 B.count ⟨2, cell, via, 0, 0, false⟩, ?_⟩
    refine ⟨?_, accTail_other hne.symm hcR hb3.cells _, hne, hb.ws, hb.sz⟩
    exact accTail_bank hbR hb3.bank ⟨2, cell, via, 0, 0, false⟩

end Go.Proofs.Ytaddjigmdeejlaa
