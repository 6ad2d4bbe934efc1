/- The document's bank: loads and stores. -/
import Derived.Test.YtaddjigmdeejlaaRefa
namespace Go.Proofs.Ytaddjigmdeejlaa
open Go.RowKit Go.Ss

set_option maxRecDepth 100000 in
set_option maxHeartbeats 2000000 in
theorem ref_load_out (B : Bk) (cell via : Int) (a : Option Addr) (cap : Nat) (w : World) (h : ¬ 0 ≤ cell ∨ (0 ≤ cell ∧ ¬ cell < (B.cells.length : Int))) :
    Calls Try.prog 160 #[.agg #[.slice a B.cells.length cap, .int .i64 B.count, .int .i64 B.last.kind, .int .i64 B.last.cell, .int .u64 B.last.via, .int .u64 B.last.old, .int .u64 B.last.new, .bool B.last.done], .int .i64 1, .int .i64 cell, .int .u64 via, .int .u64 0, .int .u64 0] w fun e w' =>
      e = .returned (.tuple #[.agg #[.slice a B.cells.length cap, .int .i64 (wrap64 (B.count + 1)), .int .i64 1, .int .i64 cell, .int .u64 via, .int .u64 0, .int .u64 0, .bool false], .agg #[.int .i64 1, .int .i64 cell, .int .u64 via, .int .u64 0, .int .u64 0, .bool false]]) ∧ Fr [] w w' := by
  obtain ⟨W0, hW0⟩ : ∃ W, w.alloc (.cells #[.slice a B.cells.length cap, .int .i64 B.count, .int .i64 B.last.kind, .int .i64 B.last.cell, .int .u64 B.last.via, .int .u64 B.last.old, .int .u64 B.last.new, .bool B.last.done] 30) = W := ⟨_, rfl⟩
  have hB0 : Blk W0 w.heap.size #[.slice a B.cells.length cap, .int .i64 B.count, .int .i64 B.last.kind, .int .i64 B.last.cell, .int .u64 B.last.via, .int .u64 B.last.old, .int .u64 B.last.new, .bool B.last.done] 30 := hW0 ▸ Blk.new _ _ _
  have F0 : Fr [] w W0 := hW0 ▸ (Fr.refl _ _).alloc _
  have hBc0 : ∀ w', Fr [] W0 w' → ∀ i, w'.cell? ⟨w.heap.size, i, none⟩ = _ := fun w' h i => (hB0.fr0 h).cell i
  have hBr0 := Fr.refl [] W0
  obtain ⟨W1, hW1⟩ : ∃ W, W0.alloc (.cells #[.slice none 0 0, .int .i64 0, .int .i64 0, .int .i64 0, .int .u64 0, .int .u64 0, .int .u64 0, .bool false] 30) = W := ⟨_, rfl⟩
  have hB1 : Blk W1 W0.heap.size #[.slice none 0 0, .int .i64 0, .int .i64 0, .int .i64 0, .int .u64 0, .int .u64 0, .int .u64 0, .bool false] 30 := hW1 ▸ Blk.new _ _ _
  have F1 : Fr [] W0 W1 := hW1 ▸ (Fr.refl _ _).alloc _
  have hBc1 : ∀ w', Fr [] W1 w' → ∀ i, w'.cell? ⟨W0.heap.size, i, none⟩ = _ := fun w' h i => (hB1.fr0 h).cell i
  have hBr1 := Fr.refl [] W1
  obtain ⟨W2, hW2⟩ : ∃ W, W1.alloc (.cells #[.int .i64 0, .int .i64 0, .int .u64 0, .int .u64 0, .int .u64 0, .bool false] 28) = W := ⟨_, rfl⟩
  have hB2 : Blk W2 W1.heap.size #[.int .i64 0, .int .i64 0, .int .u64 0, .int .u64 0, .int .u64 0, .bool false] 28 := hW2 ▸ Blk.new _ _ _
  have F2 : Fr [] W1 W2 := hW2 ▸ (Fr.refl _ _).alloc _
  have hBc2 : ∀ w', Fr [] W2 w' → ∀ i, w'.cell? ⟨W1.heap.size, i, none⟩ = _ := fun w' h i => (hB2.fr0 h).cell i
  have hBr2 := Fr.refl [] W2
  have z0 := F0.size
  have z1 := F1.size
  have z2 := F2.size
  clear hBc0 hBc1 hBc2 hBr0 hBr1 hBr2
  go_enter Try.func160, Try.ntmps160
  go_upto_region 2 with fail
  refine name_world fun W3 hW3 => ?_
  have FW3 : Fr [] W2 W3 := by rw [← hW3]; (repeat (first | with_reducible assumption | with_reducible exact Fr.refl _ _ | with_reducible refine Fr.setN ?_ (by omega) _ | with_reducible refine Fr.alloc ?_ _ | with_reducible refine Fr.drew ?_))
  have hB3 : Blk W3 W2.heap.size #[.int .i64 1, .int .i64 cell, .int .u64 via, .int .u64 0, .int .u64 0, .bool false] 28 := hW3 ▸ Blk.new _ _ _
  have hn0 := (((hB0.fr0 F1).fr0 F2).fr0 FW3).cell
  clear hW3 hW0 hW1 hW2
  go_upto_region 3 with fail
  refine name_world fun W4 hW4 => ?_
  have FW4 : Fr [] W3 W4 := by rw [← hW4]; (repeat (first | with_reducible assumption | with_reducible exact Fr.refl _ _ | with_reducible refine Fr.setN ?_ (by omega) _ | with_reducible refine Fr.alloc ?_ _ | with_reducible refine Fr.drew ?_))
  have hB4 : Blk W4 W3.heap.size #[.slice a B.cells.length cap, .int .i64 (wrap64 (B.count + 1)), .int .i64 0, .int .i64 0, .int .u64 0, .int .u64 0, .int .u64 0, .bool false] 30 := hW4 ▸ Blk.new _ _ _
  clear hW4 hn0
  have z3 := FW3.size
  have z4 := FW4.size
  have hB0' := (((hB0.fr0 F1).fr0 F2).fr0 FW3).fr0 FW4
  have hn0 := hB0'.cell
  have hB3' := hB3.fr0 FW4
  have hn3 := hB3'.cell
  have hn4 := hB4.cell
  have hf4 := hB4.frozen
  have hf3 := hB3'.frozen
  have F24 := FW3.trans FW4
  have l0 := hB0.lt
  have l1 := hB1.lt
  have l2 := hB2.lt
  have l3 := hB3.lt
  have l4 := hB4.lt
  rcases h with h | ⟨h, h'⟩
  all_goals
    have hBa := hB4
    have hBb := hB3'
    (try clear hn3 hn4 hf4 hf3)
    have hn3 := hBb.cell
    have hn4 := hBa.cell
    have hf4 := hBa.frozen
    go_upto_region 16 with fail
    refine name_world fun W5 hW5 => ?_
    have F25 : Fr [] W2 W5 := by rw [← hW5]; (repeat (first | with_reducible assumption | with_reducible exact Fr.refl _ _ | with_reducible refine Fr.setN ?_ (by omega) _ | with_reducible refine Fr.alloc ?_ _ | with_reducible refine Fr.drew ?_))
    have hB5 : Blk W5 W3.heap.size #[.slice a B.cells.length cap, .int .i64 (wrap64 (B.count + 1)), .int .i64 1, .int .i64 cell, .int .u64 via, .int .u64 0, .int .u64 0, .bool false] 30 := hW5 ▸ set6at2 hBa _ _ _ _ _ _
    have hB53 : Blk W5 W2.heap.size #[.int .i64 1, .int .i64 cell, .int .u64 via, .int .u64 0, .int .u64 0, .bool false] 28 := by
      rw [← hW5]
      exact ((((((hBb.setCell_ne (by simp; omega) _).setCell_ne (by simp; omega) _).setCell_ne (by simp; omega) _).setCell_ne (by simp; omega) _).setCell_ne (by simp; omega) _).setCell_ne (by simp; omega) _)
    clear hW5 hn3 hn4 hf4
    have hn1 := ((hB1.fr0 F2).fr0 F25).cell
    have hn2 := (hB2.fr0 F25).cell
    have hn3 : ∀ w', Ow [W0.heap.size, W1.heap.size] W5 w' → ∀ i, w'.cell? ⟨W2.heap.size, i, none⟩ = _ := fun w' h i => (Blk.ow hB53 h (by simp; omega)).cell i
    have hn4 : ∀ w', Ow [W0.heap.size, W1.heap.size] W5 w' → ∀ i, w'.cell? ⟨W3.heap.size, i, none⟩ = _ := fun w' h i => (Blk.ow hB5 h (by simp; omega)).cell i
    have hfa : ∀ w', Ow [W0.heap.size, W1.heap.size] W5 w' → ∀ i, w'.frozen? ⟨W0.heap.size, i, none⟩ = false := fun w' h i => h.fz _ (by simp) i
    have hfb : ∀ w', Ow [W0.heap.size, W1.heap.size] W5 w' → ∀ i, w'.frozen? ⟨W1.heap.size, i, none⟩ = false := fun w' h i => h.fz _ (by simp) i
    have hO : Ow [W0.heap.size, W1.heap.size] W5 W5 := ⟨Fr.refl _ _, by simp; exact ⟨((hB1.fr0 F2).fr0 F25).frozen, (hB2.fr0 F25).frozen⟩⟩
    go_region_held3 (fun w' => Ow [W0.heap.size, W1.heap.size] W5 w') (repeat (first | with_reducible assumption | with_reducible refine Ow.drew ?_ | with_reducible refine Ow.set ?_ (by simp) _)) (fail)
    go_wp2
    refine name_post (fun W6 hW6 => ?_)
    have hB62 : Blk W6 W1.heap.size #[.int .i64 1, .int .i64 cell, .int .u64 via, .int .u64 0, .int .u64 0, .bool false] 28 := by
      rw [← hW6]
      refine Blk.drew ?_
      exact set6 ((((((((((hB2.fr0 F25).setCell_ne (by simp; omega) _).setCell_ne (by simp; omega) _).setCell_ne (by simp; omega) _).setCell_ne (by simp; omega) _).setCell_ne (by simp; omega) _).setCell_ne (by simp; omega) _).setCell_ne (by simp; omega) _).setCell_ne (by simp; omega) _)) _ _ _ _ _ _
    have hB61 : Blk W6 W0.heap.size #[.slice a B.cells.length cap, .int .i64 (wrap64 (B.count + 1)), .int .i64 1, .int .i64 cell, .int .u64 via, .int .u64 0, .int .u64 0, .bool false] 30 := by
      rw [← hW6]
      refine Blk.drew ?_
      exact (((((((set8 ((hB1.fr0 F2).fr0 F25) _ _ _ _ _ _ _ _).setCell_ne (by simp; omega) _).setCell_ne (by simp; omega) _).setCell_ne (by simp; omega) _).setCell_ne (by simp; omega) _).setCell_ne (by simp; omega) _).setCell_ne (by simp; omega) _)
    have F56 : Fr [W0.heap.size, W1.heap.size] W5 W6 := by
      rw [← hW6]; (repeat (first | with_reducible exact Fr.refl _ _ | with_reducible refine Fr.setM ?_ (by simp) _ | with_reducible refine Fr.drew ?_))
    clear hW6 hn1 hn2 hn3 hn4 hfa hfb hO
    have hr1 := hB61.cell
    have hr2 := hB62.cell
    have FF : Fr [] w W6 := Fr.hide F0 ((F1.trans F2).nil.trans (F25.nil.trans F56)) (by simp; omega)
    refine bodyPost_ret (v := .tuple #[.agg #[.slice a B.cells.length cap, .int .i64 (wrap64 (B.count + 1)), .int .i64 1, .int .i64 cell, .int .u64 via, .int .u64 0, .int .u64 0, .bool false], .agg #[.int .i64 1, .int .i64 cell, .int .u64 via, .int .u64 0, .int .u64 0, .bool false]]) (by simp [results, Try.results160, go_sem, hr1, hr2]) rfl ⟨rfl, FF⟩

set_option maxRecDepth 100000 in
set_option maxHeartbeats 2000000 in
theorem ref_load_in (B : Bk) (cell via x : Int) (ad : Addr) (cap : Nat) (w : World) (h : 0 ≤ cell) (h' : cell < (B.cells.length : Int)) (hs : SlI .u64 w (.slice (some ad) B.cells.length cap) B.cells) (hx : getI B.cells cell = x) :
    Calls Try.prog 160 #[.agg #[.slice (some ad) B.cells.length cap, .int .i64 B.count, .int .i64 B.last.kind, .int .i64 B.last.cell, .int .u64 B.last.via, .int .u64 B.last.old, .int .u64 B.last.new, .bool B.last.done], .int .i64 1, .int .i64 cell, .int .u64 via, .int .u64 0, .int .u64 0] w fun e w' =>
      e = .returned (.tuple #[.agg #[.slice (some ad) B.cells.length cap, .int .i64 (wrap64 (B.count + 1)), .int .i64 1, .int .i64 cell, .int .u64 via, .int .u64 x, .int .u64 x, .bool true], .agg #[.int .i64 1, .int .i64 cell, .int .u64 via, .int .u64 x, .int .u64 x, .bool true]]) ∧ Fr [] w w' := by
  obtain ⟨W0, hW0⟩ : ∃ W, w.alloc (.cells #[.slice (some ad) B.cells.length cap, .int .i64 B.count, .int .i64 B.last.kind, .int .i64 B.last.cell, .int .u64 B.last.via, .int .u64 B.last.old, .int .u64 B.last.new, .bool B.last.done] 30) = W := ⟨_, rfl⟩
  have hB0 : Blk W0 w.heap.size #[.slice (some ad) B.cells.length cap, .int .i64 B.count, .int .i64 B.last.kind, .int .i64 B.last.cell, .int .u64 B.last.via, .int .u64 B.last.old, .int .u64 B.last.new, .bool B.last.done] 30 := hW0 ▸ Blk.new _ _ _
  have F0 : Fr [] w W0 := hW0 ▸ (Fr.refl _ _).alloc _
  have hBc0 : ∀ w', Fr [] W0 w' → ∀ i, w'.cell? ⟨w.heap.size, i, none⟩ = _ := fun w' h i => (hB0.fr0 h).cell i
  have hBr0 := Fr.refl [] W0
  obtain ⟨W1, hW1⟩ : ∃ W, W0.alloc (.cells #[.slice none 0 0, .int .i64 0, .int .i64 0, .int .i64 0, .int .u64 0, .int .u64 0, .int .u64 0, .bool false] 30) = W := ⟨_, rfl⟩
  have hB1 : Blk W1 W0.heap.size #[.slice none 0 0, .int .i64 0, .int .i64 0, .int .i64 0, .int .u64 0, .int .u64 0, .int .u64 0, .bool false] 30 := hW1 ▸ Blk.new _ _ _
  have F1 : Fr [] W0 W1 := hW1 ▸ (Fr.refl _ _).alloc _
  have hBc1 : ∀ w', Fr [] W1 w' → ∀ i, w'.cell? ⟨W0.heap.size, i, none⟩ = _ := fun w' h i => (hB1.fr0 h).cell i
  have hBr1 := Fr.refl [] W1
  obtain ⟨W2, hW2⟩ : ∃ W, W1.alloc (.cells #[.int .i64 0, .int .i64 0, .int .u64 0, .int .u64 0, .int .u64 0, .bool false] 28) = W := ⟨_, rfl⟩
  have hB2 : Blk W2 W1.heap.size #[.int .i64 0, .int .i64 0, .int .u64 0, .int .u64 0, .int .u64 0, .bool false] 28 := hW2 ▸ Blk.new _ _ _
  have F2 : Fr [] W1 W2 := hW2 ▸ (Fr.refl _ _).alloc _
  have hBc2 : ∀ w', Fr [] W2 w' → ∀ i, w'.cell? ⟨W1.heap.size, i, none⟩ = _ := fun w' h i => (hB2.fr0 h).cell i
  have hBr2 := Fr.refl [] W2
  have z0 := F0.size
  have z1 := F1.size
  have z2 := F2.size
  clear hBc0 hBc1 hBc2 hBr0 hBr1 hBr2
  have HX := Lib.hid hx; clear hx
  have HS := Lib.hid hs; clear hs
  go_enter Try.func160, Try.ntmps160
  go_upto_region 2 with fail
  refine name_world fun W3 hW3 => ?_
  have FW3 : Fr [] W2 W3 := by rw [← hW3]; (repeat (first | with_reducible assumption | with_reducible exact Fr.refl _ _ | with_reducible refine Fr.setN ?_ (by omega) _ | with_reducible refine Fr.alloc ?_ _ | with_reducible refine Fr.drew ?_))
  have hB3 : Blk W3 W2.heap.size #[.int .i64 1, .int .i64 cell, .int .u64 via, .int .u64 0, .int .u64 0, .bool false] 28 := hW3 ▸ Blk.new _ _ _
  have hn0 := (((hB0.fr0 F1).fr0 F2).fr0 FW3).cell
  clear hW3 hW0 hW1 hW2
  go_upto_region 3 with fail
  refine name_world fun W4 hW4 => ?_
  have FW4 : Fr [] W3 W4 := by rw [← hW4]; (repeat (first | with_reducible assumption | with_reducible exact Fr.refl _ _ | with_reducible refine Fr.setN ?_ (by omega) _ | with_reducible refine Fr.alloc ?_ _ | with_reducible refine Fr.drew ?_))
  have hB4 : Blk W4 W3.heap.size #[.slice (some ad) B.cells.length cap, .int .i64 (wrap64 (B.count + 1)), .int .i64 0, .int .i64 0, .int .u64 0, .int .u64 0, .int .u64 0, .bool false] 30 := hW4 ▸ Blk.new _ _ _
  clear hW4 hn0
  have z3 := FW3.size
  have z4 := FW4.size
  have hB0' := (((hB0.fr0 F1).fr0 F2).fr0 FW3).fr0 FW4
  have hn0 := hB0'.cell
  have hB3' := hB3.fr0 FW4
  have hn3 := hB3'.cell
  have hn4 := hB4.cell
  have hf4 := hB4.frozen
  have hf3 := hB3'.frozen
  have F24 := FW3.trans FW4
  have l0 := hB0.lt
  have l1 := hB1.lt
  have l2 := hB2.lt
  have l3 := hB3.lt
  have l4 := hB4.lt
  have F04 := F0.trans (F1.trans (F2.trans F24))
  have hs4 : SlI .u64 W4 (.slice (some ad) B.cells.length cap) B.cells := SlI.fr HS.out F04 (by simp)
  have hc4 : W4.cell? (ad.add cell.toNat) = some (.int .u64 x) := by rw [← HX.out]; exact SlI.at_ hs4 cell h h'
  have HS4 := Lib.hid hs4; clear hs4
  go_upto_region 12 with fail
  refine name_world fun W7 hW7 => ?_
  have F27 : Fr [] W2 W7 := by rw [← hW7]; (repeat (first | with_reducible assumption | with_reducible exact Fr.refl _ _ | with_reducible refine Fr.setN ?_ (by omega) _ | with_reducible refine Fr.alloc ?_ _ | with_reducible refine Fr.drew ?_))
  have hBb : Blk W7 W2.heap.size #[.int .i64 1, .int .i64 cell, .int .u64 via, .int .u64 x, .int .u64 x, .bool true] 28 := by
    have := (((hB3'.setCell 3 (.int .u64 x)).setCell 4 (.int .u64 x)).setCell 5 (.bool true))
    simp only [List.setIfInBounds_toArray, List.set_cons_succ, List.set_cons_zero] at this
    rw [← hW7]; exact this
  have hBa : Blk W7 W3.heap.size #[.slice (some ad) B.cells.length cap, .int .i64 (wrap64 (B.count + 1)), .int .i64 0, .int .i64 0, .int .u64 0, .int .u64 0, .int .u64 0, .bool false] 30 := by
    rw [← hW7]; exact (((hB4.setCell_ne (by simp; omega) _).setCell_ne (by simp; omega) _).setCell_ne (by simp; omega) _)
  have hBo : Blk W7 w.heap.size #[.slice (some ad) B.cells.length cap, .int .i64 B.count, .int .i64 B.last.kind, .int .i64 B.last.cell, .int .u64 B.last.via, .int .u64 B.last.old, .int .u64 B.last.new, .bool B.last.done] 30 := by
    rw [← hW7]; exact (((hB0'.setCell_ne (by simp; omega) _).setCell_ne (by simp; omega) _).setCell_ne (by simp; omega) _)
  clear hW7 hc4
  clear hn0 hn3 hn4 hf4 hf3
  have hn0 := hBo.cell
  have hn3 := hBb.cell
  have hn4 := hBa.cell
  have hf4 := hBa.frozen
  have hf3 := hBb.frozen
  (try clear hn3 hn4 hf4 hf3)
  have hn3 := hBb.cell
  have hn4 := hBa.cell
  have hf4 := hBa.frozen
  go_upto_region 16 with fail
  refine name_world fun W5 hW5 => ?_
  have F25 : Fr [] W2 W5 := by rw [← hW5]; (repeat (first | with_reducible assumption | with_reducible exact Fr.refl _ _ | with_reducible refine Fr.setN ?_ (by omega) _ | with_reducible refine Fr.alloc ?_ _ | with_reducible refine Fr.drew ?_))
  have hB5 : Blk W5 W3.heap.size #[.slice (some ad) B.cells.length cap, .int .i64 (wrap64 (B.count + 1)), .int .i64 1, .int .i64 cell, .int .u64 via, .int .u64 x, .int .u64 x, .bool true] 30 := hW5 ▸ set6at2 hBa _ _ _ _ _ _
  have hB53 : Blk W5 W2.heap.size #[.int .i64 1, .int .i64 cell, .int .u64 via, .int .u64 x, .int .u64 x, .bool true] 28 := by
    rw [← hW5]
    exact ((((((hBb.setCell_ne (by simp; omega) _).setCell_ne (by simp; omega) _).setCell_ne (by simp; omega) _).setCell_ne (by simp; omega) _).setCell_ne (by simp; omega) _).setCell_ne (by simp; omega) _)
  clear hW5 hn3 hn4 hf4
  have hn1 := ((hB1.fr0 F2).fr0 F25).cell
  have hn2 := (hB2.fr0 F25).cell
  have hn3 : ∀ w', Ow [W0.heap.size, W1.heap.size] W5 w' → ∀ i, w'.cell? ⟨W2.heap.size, i, none⟩ = _ := fun w' h i => (Blk.ow hB53 h (by simp; omega)).cell i
  have hn4 : ∀ w', Ow [W0.heap.size, W1.heap.size] W5 w' → ∀ i, w'.cell? ⟨W3.heap.size, i, none⟩ = _ := fun w' h i => (Blk.ow hB5 h (by simp; omega)).cell i
  have hfa : ∀ w', Ow [W0.heap.size, W1.heap.size] W5 w' → ∀ i, w'.frozen? ⟨W0.heap.size, i, none⟩ = false := fun w' h i => h.fz _ (by simp) i
  have hfb : ∀ w', Ow [W0.heap.size, W1.heap.size] W5 w' → ∀ i, w'.frozen? ⟨W1.heap.size, i, none⟩ = false := fun w' h i => h.fz _ (by simp) i
  have hO : Ow [W0.heap.size, W1.heap.size] W5 W5 := ⟨Fr.refl _ _, by simp; exact ⟨((hB1.fr0 F2).fr0 F25).frozen, (hB2.fr0 F25).frozen⟩⟩
  go_region_held3 (fun w' => Ow [W0.heap.size, W1.heap.size] W5 w') (repeat (first | with_reducible assumption | with_reducible refine Ow.drew ?_ | with_reducible refine Ow.set ?_ (by simp) _)) (fail)
  go_wp2
  refine name_post (fun W6 hW6 => ?_)
  have hB62 : Blk W6 W1.heap.size #[.int .i64 1, .int .i64 cell, .int .u64 via, .int .u64 x, .int .u64 x, .bool true] 28 := by
    rw [← hW6]
    refine Blk.drew ?_
    exact set6 ((((((((((hB2.fr0 F25).setCell_ne (by simp; omega) _).setCell_ne (by simp; omega) _).setCell_ne (by simp; omega) _).setCell_ne (by simp; omega) _).setCell_ne (by simp; omega) _).setCell_ne (by simp; omega) _).setCell_ne (by simp; omega) _).setCell_ne (by simp; omega) _)) _ _ _ _ _ _
  have hB61 : Blk W6 W0.heap.size #[.slice (some ad) B.cells.length cap, .int .i64 (wrap64 (B.count + 1)), .int .i64 1, .int .i64 cell, .int .u64 via, .int .u64 x, .int .u64 x, .bool true] 30 := by
    rw [← hW6]
    refine Blk.drew ?_
    exact (((((((set8 ((hB1.fr0 F2).fr0 F25) _ _ _ _ _ _ _ _).setCell_ne (by simp; omega) _).setCell_ne (by simp; omega) _).setCell_ne (by simp; omega) _).setCell_ne (by simp; omega) _).setCell_ne (by simp; omega) _).setCell_ne (by simp; omega) _)
  have F56 : Fr [W0.heap.size, W1.heap.size] W5 W6 := by
    rw [← hW6]; (repeat (first | with_reducible exact Fr.refl _ _ | with_reducible refine Fr.setM ?_ (by simp) _ | with_reducible refine Fr.drew ?_))
  clear hW6 hn1 hn2 hn3 hn4 hfa hfb hO
  have hr1 := hB61.cell
  have hr2 := hB62.cell
  have FF : Fr [] w W6 := Fr.hide F0 ((F1.trans F2).nil.trans (F25.nil.trans F56)) (by simp; omega)
  refine bodyPost_ret (v := .tuple #[.agg #[.slice (some ad) B.cells.length cap, .int .i64 (wrap64 (B.count + 1)), .int .i64 1, .int .i64 cell, .int .u64 via, .int .u64 x, .int .u64 x, .bool true], .agg #[.int .i64 1, .int .i64 cell, .int .u64 via, .int .u64 x, .int .u64 x, .bool true]]) (by simp [results, Try.results160, go_sem, hr1, hr2]) rfl ⟨rfl, FF⟩

set_option maxRecDepth 100000 in
set_option maxHeartbeats 2000000 in
theorem ref_store_out (B : Bk) (cell via v : Int) (a : Option Addr) (cap : Nat) (w : World) (h : ¬ 0 ≤ cell ∨ (0 ≤ cell ∧ ¬ cell < (B.cells.length : Int))) :
    Calls Try.prog 160 #[.agg #[.slice a B.cells.length cap, .int .i64 B.count, .int .i64 B.last.kind, .int .i64 B.last.cell, .int .u64 B.last.via, .int .u64 B.last.old, .int .u64 B.last.new, .bool B.last.done], .int .i64 2, .int .i64 cell, .int .u64 via, .int .u64 0, .int .u64 v] w fun e w' =>
      e = .returned (.tuple #[.agg #[.slice a B.cells.length cap, .int .i64 (wrap64 (B.count + 1)), .int .i64 2, .int .i64 cell, .int .u64 via, .int .u64 0, .int .u64 0, .bool false], .agg #[.int .i64 2, .int .i64 cell, .int .u64 via, .int .u64 0, .int .u64 0, .bool false]]) ∧ Fr [] w w' := by
  obtain ⟨W0, hW0⟩ : ∃ W, w.alloc (.cells #[.slice a B.cells.length cap, .int .i64 B.count, .int .i64 B.last.kind, .int .i64 B.last.cell, .int .u64 B.last.via, .int .u64 B.last.old, .int .u64 B.last.new, .bool B.last.done] 30) = W := ⟨_, rfl⟩
  have hB0 : Blk W0 w.heap.size #[.slice a B.cells.length cap, .int .i64 B.count, .int .i64 B.last.kind, .int .i64 B.last.cell, .int .u64 B.last.via, .int .u64 B.last.old, .int .u64 B.last.new, .bool B.last.done] 30 := hW0 ▸ Blk.new _ _ _
  have F0 : Fr [] w W0 := hW0 ▸ (Fr.refl _ _).alloc _
  have hBc0 : ∀ w', Fr [] W0 w' → ∀ i, w'.cell? ⟨w.heap.size, i, none⟩ = _ := fun w' h i => (hB0.fr0 h).cell i
  have hBr0 := Fr.refl [] W0
  obtain ⟨W1, hW1⟩ : ∃ W, W0.alloc (.cells #[.slice none 0 0, .int .i64 0, .int .i64 0, .int .i64 0, .int .u64 0, .int .u64 0, .int .u64 0, .bool false] 30) = W := ⟨_, rfl⟩
  have hB1 : Blk W1 W0.heap.size #[.slice none 0 0, .int .i64 0, .int .i64 0, .int .i64 0, .int .u64 0, .int .u64 0, .int .u64 0, .bool false] 30 := hW1 ▸ Blk.new _ _ _
  have F1 : Fr [] W0 W1 := hW1 ▸ (Fr.refl _ _).alloc _
  have hBc1 : ∀ w', Fr [] W1 w' → ∀ i, w'.cell? ⟨W0.heap.size, i, none⟩ = _ := fun w' h i => (hB1.fr0 h).cell i
  have hBr1 := Fr.refl [] W1
  obtain ⟨W2, hW2⟩ : ∃ W, W1.alloc (.cells #[.int .i64 0, .int .i64 0, .int .u64 0, .int .u64 0, .int .u64 0, .bool false] 28) = W := ⟨_, rfl⟩
  have hB2 : Blk W2 W1.heap.size #[.int .i64 0, .int .i64 0, .int .u64 0, .int .u64 0, .int .u64 0, .bool false] 28 := hW2 ▸ Blk.new _ _ _
  have F2 : Fr [] W1 W2 := hW2 ▸ (Fr.refl _ _).alloc _
  have hBc2 : ∀ w', Fr [] W2 w' → ∀ i, w'.cell? ⟨W1.heap.size, i, none⟩ = _ := fun w' h i => (hB2.fr0 h).cell i
  have hBr2 := Fr.refl [] W2
  have z0 := F0.size
  have z1 := F1.size
  have z2 := F2.size
  clear hBc0 hBc1 hBc2 hBr0 hBr1 hBr2
  go_enter Try.func160, Try.ntmps160
  go_upto_region 2 with fail
  refine name_world fun W3 hW3 => ?_
  have FW3 : Fr [] W2 W3 := by rw [← hW3]; (repeat (first | with_reducible assumption | with_reducible exact Fr.refl _ _ | with_reducible refine Fr.setN ?_ (by omega) _ | with_reducible refine Fr.alloc ?_ _ | with_reducible refine Fr.drew ?_))
  have hB3 : Blk W3 W2.heap.size #[.int .i64 2, .int .i64 cell, .int .u64 via, .int .u64 0, .int .u64 0, .bool false] 28 := hW3 ▸ Blk.new _ _ _
  have hn0 := (((hB0.fr0 F1).fr0 F2).fr0 FW3).cell
  clear hW3 hW0 hW1 hW2
  go_upto_region 3 with fail
  refine name_world fun W4 hW4 => ?_
  have FW4 : Fr [] W3 W4 := by rw [← hW4]; (repeat (first | with_reducible assumption | with_reducible exact Fr.refl _ _ | with_reducible refine Fr.setN ?_ (by omega) _ | with_reducible refine Fr.alloc ?_ _ | with_reducible refine Fr.drew ?_))
  have hB4 : Blk W4 W3.heap.size #[.slice a B.cells.length cap, .int .i64 (wrap64 (B.count + 1)), .int .i64 0, .int .i64 0, .int .u64 0, .int .u64 0, .int .u64 0, .bool false] 30 := hW4 ▸ Blk.new _ _ _
  clear hW4 hn0
  have z3 := FW3.size
  have z4 := FW4.size
  have hB0' := (((hB0.fr0 F1).fr0 F2).fr0 FW3).fr0 FW4
  have hn0 := hB0'.cell
  have hB3' := hB3.fr0 FW4
  have hn3 := hB3'.cell
  have hn4 := hB4.cell
  have hf4 := hB4.frozen
  have hf3 := hB3'.frozen
  have F24 := FW3.trans FW4
  have l0 := hB0.lt
  have l1 := hB1.lt
  have l2 := hB2.lt
  have l3 := hB3.lt
  have l4 := hB4.lt
  rcases h with h | ⟨h, h'⟩
  all_goals
    have hBa := hB4
    have hBb := hB3'
    (try clear hn3 hn4 hf4 hf3)
    have hn3 := hBb.cell
    have hn4 := hBa.cell
    have hf4 := hBa.frozen
    go_upto_region 16 with fail
    refine name_world fun W5 hW5 => ?_
    have F25 : Fr [] W2 W5 := by rw [← hW5]; (repeat (first | with_reducible assumption | with_reducible exact Fr.refl _ _ | with_reducible refine Fr.setN ?_ (by omega) _ | with_reducible refine Fr.alloc ?_ _ | with_reducible refine Fr.drew ?_))
    have hB5 : Blk W5 W3.heap.size #[.slice a B.cells.length cap, .int .i64 (wrap64 (B.count + 1)), .int .i64 2, .int .i64 cell, .int .u64 via, .int .u64 0, .int .u64 0, .bool false] 30 := hW5 ▸ set6at2 hBa _ _ _ _ _ _
    have hB53 : Blk W5 W2.heap.size #[.int .i64 2, .int .i64 cell, .int .u64 via, .int .u64 0, .int .u64 0, .bool false] 28 := by
      rw [← hW5]
      exact ((((((hBb.setCell_ne (by simp; omega) _).setCell_ne (by simp; omega) _).setCell_ne (by simp; omega) _).setCell_ne (by simp; omega) _).setCell_ne (by simp; omega) _).setCell_ne (by simp; omega) _)
    clear hW5 hn3 hn4 hf4
    have hn1 := ((hB1.fr0 F2).fr0 F25).cell
    have hn2 := (hB2.fr0 F25).cell
    have hn3 : ∀ w', Ow [W0.heap.size, W1.heap.size] W5 w' → ∀ i, w'.cell? ⟨W2.heap.size, i, none⟩ = _ := fun w' h i => (Blk.ow hB53 h (by simp; omega)).cell i
    have hn4 : ∀ w', Ow [W0.heap.size, W1.heap.size] W5 w' → ∀ i, w'.cell? ⟨W3.heap.size, i, none⟩ = _ := fun w' h i => (Blk.ow hB5 h (by simp; omega)).cell i
    have hfa : ∀ w', Ow [W0.heap.size, W1.heap.size] W5 w' → ∀ i, w'.frozen? ⟨W0.heap.size, i, none⟩ = false := fun w' h i => h.fz _ (by simp) i
    have hfb : ∀ w', Ow [W0.heap.size, W1.heap.size] W5 w' → ∀ i, w'.frozen? ⟨W1.heap.size, i, none⟩ = false := fun w' h i => h.fz _ (by simp) i
    have hO : Ow [W0.heap.size, W1.heap.size] W5 W5 := ⟨Fr.refl _ _, by simp; exact ⟨((hB1.fr0 F2).fr0 F25).frozen, (hB2.fr0 F25).frozen⟩⟩
    go_region_held3 (fun w' => Ow [W0.heap.size, W1.heap.size] W5 w') (repeat (first | with_reducible assumption | with_reducible refine Ow.drew ?_ | with_reducible refine Ow.set ?_ (by simp) _)) (fail)
    go_wp2
    refine name_post (fun W6 hW6 => ?_)
    have hB62 : Blk W6 W1.heap.size #[.int .i64 2, .int .i64 cell, .int .u64 via, .int .u64 0, .int .u64 0, .bool false] 28 := by
      rw [← hW6]
      refine Blk.drew ?_
      exact set6 ((((((((((hB2.fr0 F25).setCell_ne (by simp; omega) _).setCell_ne (by simp; omega) _).setCell_ne (by simp; omega) _).setCell_ne (by simp; omega) _).setCell_ne (by simp; omega) _).setCell_ne (by simp; omega) _).setCell_ne (by simp; omega) _).setCell_ne (by simp; omega) _)) _ _ _ _ _ _
    have hB61 : Blk W6 W0.heap.size #[.slice a B.cells.length cap, .int .i64 (wrap64 (B.count + 1)), .int .i64 2, .int .i64 cell, .int .u64 via, .int .u64 0, .int .u64 0, .bool false] 30 := by
      rw [← hW6]
      refine Blk.drew ?_
      exact (((((((set8 ((hB1.fr0 F2).fr0 F25) _ _ _ _ _ _ _ _).setCell_ne (by simp; omega) _).setCell_ne (by simp; omega) _).setCell_ne (by simp; omega) _).setCell_ne (by simp; omega) _).setCell_ne (by simp; omega) _).setCell_ne (by simp; omega) _)
    have F56 : Fr [W0.heap.size, W1.heap.size] W5 W6 := by
      rw [← hW6]; (repeat (first | with_reducible exact Fr.refl _ _ | with_reducible refine Fr.setM ?_ (by simp) _ | with_reducible refine Fr.drew ?_))
    clear hW6 hn1 hn2 hn3 hn4 hfa hfb hO
    have hr1 := hB61.cell
    have hr2 := hB62.cell
    have FF : Fr [] w W6 := Fr.hide F0 ((F1.trans F2).nil.trans (F25.nil.trans F56)) (by simp; omega)
    refine bodyPost_ret (v := .tuple #[.agg #[.slice a B.cells.length cap, .int .i64 (wrap64 (B.count + 1)), .int .i64 2, .int .i64 cell, .int .u64 via, .int .u64 0, .int .u64 0, .bool false], .agg #[.int .i64 2, .int .i64 cell, .int .u64 via, .int .u64 0, .int .u64 0, .bool false]]) (by simp [results, Try.results160, go_sem, hr1, hr2]) rfl ⟨rfl, FF⟩

set_option maxRecDepth 100000 in
set_option maxHeartbeats 2000000 in
theorem ref_store_same (B : Bk) (cell via v x : Int) (ad : Addr) (cap : Nat) (w : World) (h : 0 ≤ cell) (h' : cell < (B.cells.length : Int)) (hs : SlI .u64 w (.slice (some ad) B.cells.length cap) B.cells) (hx : getI B.cells cell = x) (hv : v = x) :
    Calls Try.prog 160 #[.agg #[.slice (some ad) B.cells.length cap, .int .i64 B.count, .int .i64 B.last.kind, .int .i64 B.last.cell, .int .u64 B.last.via, .int .u64 B.last.old, .int .u64 B.last.new, .bool B.last.done], .int .i64 2, .int .i64 cell, .int .u64 via, .int .u64 0, .int .u64 v] w fun e w' =>
      e = .returned (.tuple #[.agg #[.slice (some ad) B.cells.length cap, .int .i64 (wrap64 (B.count + 1)), .int .i64 2, .int .i64 cell, .int .u64 via, .int .u64 x, .int .u64 x, .bool true], .agg #[.int .i64 2, .int .i64 cell, .int .u64 via, .int .u64 x, .int .u64 x, .bool true]]) ∧ Fr [] w w' := by
  obtain ⟨W0, hW0⟩ : ∃ W, w.alloc (.cells #[.slice (some ad) B.cells.length cap, .int .i64 B.count, .int .i64 B.last.kind, .int .i64 B.last.cell, .int .u64 B.last.via, .int .u64 B.last.old, .int .u64 B.last.new, .bool B.last.done] 30) = W := ⟨_, rfl⟩
  have hB0 : Blk W0 w.heap.size #[.slice (some ad) B.cells.length cap, .int .i64 B.count, .int .i64 B.last.kind, .int .i64 B.last.cell, .int .u64 B.last.via, .int .u64 B.last.old, .int .u64 B.last.new, .bool B.last.done] 30 := hW0 ▸ Blk.new _ _ _
  have F0 : Fr [] w W0 := hW0 ▸ (Fr.refl _ _).alloc _
  have hBc0 : ∀ w', Fr [] W0 w' → ∀ i, w'.cell? ⟨w.heap.size, i, none⟩ = _ := fun w' h i => (hB0.fr0 h).cell i
  have hBr0 := Fr.refl [] W0
  obtain ⟨W1, hW1⟩ : ∃ W, W0.alloc (.cells #[.slice none 0 0, .int .i64 0, .int .i64 0, .int .i64 0, .int .u64 0, .int .u64 0, .int .u64 0, .bool false] 30) = W := ⟨_, rfl⟩
  have hB1 : Blk W1 W0.heap.size #[.slice none 0 0, .int .i64 0, .int .i64 0, .int .i64 0, .int .u64 0, .int .u64 0, .int .u64 0, .bool false] 30 := hW1 ▸ Blk.new _ _ _
  have F1 : Fr [] W0 W1 := hW1 ▸ (Fr.refl _ _).alloc _
  have hBc1 : ∀ w', Fr [] W1 w' → ∀ i, w'.cell? ⟨W0.heap.size, i, none⟩ = _ := fun w' h i => (hB1.fr0 h).cell i
  have hBr1 := Fr.refl [] W1
  obtain ⟨W2, hW2⟩ : ∃ W, W1.alloc (.cells #[.int .i64 0, .int .i64 0, .int .u64 0, .int .u64 0, .int .u64 0, .bool false] 28) = W := ⟨_, rfl⟩
  have hB2 : Blk W2 W1.heap.size #[.int .i64 0, .int .i64 0, .int .u64 0, .int .u64 0, .int .u64 0, .bool false] 28 := hW2 ▸ Blk.new _ _ _
  have F2 : Fr [] W1 W2 := hW2 ▸ (Fr.refl _ _).alloc _
  have hBc2 : ∀ w', Fr [] W2 w' → ∀ i, w'.cell? ⟨W1.heap.size, i, none⟩ = _ := fun w' h i => (hB2.fr0 h).cell i
  have hBr2 := Fr.refl [] W2
  have z0 := F0.size
  have z1 := F1.size
  have z2 := F2.size
  clear hBc0 hBc1 hBc2 hBr0 hBr1 hBr2
  have HX := Lib.hid hx; clear hx
  have HS := Lib.hid hs; clear hs
  go_enter Try.func160, Try.ntmps160
  go_upto_region 2 with fail
  refine name_world fun W3 hW3 => ?_
  have FW3 : Fr [] W2 W3 := by rw [← hW3]; (repeat (first | with_reducible assumption | with_reducible exact Fr.refl _ _ | with_reducible refine Fr.setN ?_ (by omega) _ | with_reducible refine Fr.alloc ?_ _ | with_reducible refine Fr.drew ?_))
  have hB3 : Blk W3 W2.heap.size #[.int .i64 2, .int .i64 cell, .int .u64 via, .int .u64 0, .int .u64 0, .bool false] 28 := hW3 ▸ Blk.new _ _ _
  have hn0 := (((hB0.fr0 F1).fr0 F2).fr0 FW3).cell
  clear hW3 hW0 hW1 hW2
  go_upto_region 3 with fail
  refine name_world fun W4 hW4 => ?_
  have FW4 : Fr [] W3 W4 := by rw [← hW4]; (repeat (first | with_reducible assumption | with_reducible exact Fr.refl _ _ | with_reducible refine Fr.setN ?_ (by omega) _ | with_reducible refine Fr.alloc ?_ _ | with_reducible refine Fr.drew ?_))
  have hB4 : Blk W4 W3.heap.size #[.slice (some ad) B.cells.length cap, .int .i64 (wrap64 (B.count + 1)), .int .i64 0, .int .i64 0, .int .u64 0, .int .u64 0, .int .u64 0, .bool false] 30 := hW4 ▸ Blk.new _ _ _
  clear hW4 hn0
  have z3 := FW3.size
  have z4 := FW4.size
  have hB0' := (((hB0.fr0 F1).fr0 F2).fr0 FW3).fr0 FW4
  have hn0 := hB0'.cell
  have hB3' := hB3.fr0 FW4
  have hn3 := hB3'.cell
  have hn4 := hB4.cell
  have hf4 := hB4.frozen
  have hf3 := hB3'.frozen
  have F24 := FW3.trans FW4
  have l0 := hB0.lt
  have l1 := hB1.lt
  have l2 := hB2.lt
  have l3 := hB3.lt
  have l4 := hB4.lt
  have F04 := F0.trans (F1.trans (F2.trans F24))
  have hs4 : SlI .u64 W4 (.slice (some ad) B.cells.length cap) B.cells := SlI.fr HS.out F04 (by simp)
  have hc4 : W4.cell? (ad.add cell.toNat) = some (.int .u64 x) := by rw [← HX.out]; exact SlI.at_ hs4 cell h h'
  have HS4 := Lib.hid hs4; clear hs4
  go_upto_region 12 with fail
  refine name_world fun W7 hW7 => ?_
  have F27 : Fr [] W2 W7 := by rw [← hW7]; (repeat (first | with_reducible assumption | with_reducible exact Fr.refl _ _ | with_reducible refine Fr.setN ?_ (by omega) _ | with_reducible refine Fr.alloc ?_ _ | with_reducible refine Fr.drew ?_))
  have hBb : Blk W7 W2.heap.size #[.int .i64 2, .int .i64 cell, .int .u64 via, .int .u64 x, .int .u64 x, .bool true] 28 := by
    have := ((((hB3'.setCell 3 (.int .u64 x)).setCell 4 (.int .u64 x)).setCell 5 (.bool true)).setCell 4 (.int .u64 x))
    simp only [List.setIfInBounds_toArray, List.set_cons_succ, List.set_cons_zero] at this
    rw [← hW7]; exact this
  have hBa : Blk W7 W3.heap.size #[.slice (some ad) B.cells.length cap, .int .i64 (wrap64 (B.count + 1)), .int .i64 0, .int .i64 0, .int .u64 0, .int .u64 0, .int .u64 0, .bool false] 30 := by
    rw [← hW7]; exact ((((hB4.setCell_ne (by simp; omega) _).setCell_ne (by simp; omega) _).setCell_ne (by simp; omega) _).setCell_ne (by simp; omega) _)
  have hBo : Blk W7 w.heap.size #[.slice (some ad) B.cells.length cap, .int .i64 B.count, .int .i64 B.last.kind, .int .i64 B.last.cell, .int .u64 B.last.via, .int .u64 B.last.old, .int .u64 B.last.new, .bool B.last.done] 30 := by
    rw [← hW7]; exact ((((hB0'.setCell_ne (by simp; omega) _).setCell_ne (by simp; omega) _).setCell_ne (by simp; omega) _).setCell_ne (by simp; omega) _)
  clear hW7 hc4
  clear hn0 hn3 hn4 hf4 hf3
  have hn0 := hBo.cell
  have hn3 := hBb.cell
  have hn4 := hBa.cell
  have hf4 := hBa.frozen
  have hf3 := hBb.frozen
  (try clear hn3 hn4 hf4 hf3)
  have hn3 := hBb.cell
  have hn4 := hBa.cell
  have hf4 := hBa.frozen
  go_upto_region 16 with fail
  refine name_world fun W5 hW5 => ?_
  have F25 : Fr [] W2 W5 := by rw [← hW5]; (repeat (first | with_reducible assumption | with_reducible exact Fr.refl _ _ | with_reducible refine Fr.setN ?_ (by omega) _ | with_reducible refine Fr.alloc ?_ _ | with_reducible refine Fr.drew ?_))
  have hB5 : Blk W5 W3.heap.size #[.slice (some ad) B.cells.length cap, .int .i64 (wrap64 (B.count + 1)), .int .i64 2, .int .i64 cell, .int .u64 via, .int .u64 x, .int .u64 x, .bool true] 30 := hW5 ▸ set6at2 hBa _ _ _ _ _ _
  have hB53 : Blk W5 W2.heap.size #[.int .i64 2, .int .i64 cell, .int .u64 via, .int .u64 x, .int .u64 x, .bool true] 28 := by
    rw [← hW5]
    exact ((((((hBb.setCell_ne (by simp; omega) _).setCell_ne (by simp; omega) _).setCell_ne (by simp; omega) _).setCell_ne (by simp; omega) _).setCell_ne (by simp; omega) _).setCell_ne (by simp; omega) _)
  clear hW5 hn3 hn4 hf4
  have hn1 := ((hB1.fr0 F2).fr0 F25).cell
  have hn2 := (hB2.fr0 F25).cell
  have hn3 : ∀ w', Ow [W0.heap.size, W1.heap.size] W5 w' → ∀ i, w'.cell? ⟨W2.heap.size, i, none⟩ = _ := fun w' h i => (Blk.ow hB53 h (by simp; omega)).cell i
  have hn4 : ∀ w', Ow [W0.heap.size, W1.heap.size] W5 w' → ∀ i, w'.cell? ⟨W3.heap.size, i, none⟩ = _ := fun w' h i => (Blk.ow hB5 h (by simp; omega)).cell i
  have hfa : ∀ w', Ow [W0.heap.size, W1.heap.size] W5 w' → ∀ i, w'.frozen? ⟨W0.heap.size, i, none⟩ = false := fun w' h i => h.fz _ (by simp) i
  have hfb : ∀ w', Ow [W0.heap.size, W1.heap.size] W5 w' → ∀ i, w'.frozen? ⟨W1.heap.size, i, none⟩ = false := fun w' h i => h.fz _ (by simp) i
  have hO : Ow [W0.heap.size, W1.heap.size] W5 W5 := ⟨Fr.refl _ _, by simp; exact ⟨((hB1.fr0 F2).fr0 F25).frozen, (hB2.fr0 F25).frozen⟩⟩
  go_region_held3 (fun w' => Ow [W0.heap.size, W1.heap.size] W5 w') (repeat (first | with_reducible assumption | with_reducible refine Ow.drew ?_ | with_reducible refine Ow.set ?_ (by simp) _)) (fail)
  go_wp2
  refine name_post (fun W6 hW6 => ?_)
  have hB62 : Blk W6 W1.heap.size #[.int .i64 2, .int .i64 cell, .int .u64 via, .int .u64 x, .int .u64 x, .bool true] 28 := by
    rw [← hW6]
    refine Blk.drew ?_
    exact set6 ((((((((((hB2.fr0 F25).setCell_ne (by simp; omega) _).setCell_ne (by simp; omega) _).setCell_ne (by simp; omega) _).setCell_ne (by simp; omega) _).setCell_ne (by simp; omega) _).setCell_ne (by simp; omega) _).setCell_ne (by simp; omega) _).setCell_ne (by simp; omega) _)) _ _ _ _ _ _
  have hB61 : Blk W6 W0.heap.size #[.slice (some ad) B.cells.length cap, .int .i64 (wrap64 (B.count + 1)), .int .i64 2, .int .i64 cell, .int .u64 via, .int .u64 x, .int .u64 x, .bool true] 30 := by
    rw [← hW6]
    refine Blk.drew ?_
    exact (((((((set8 ((hB1.fr0 F2).fr0 F25) _ _ _ _ _ _ _ _).setCell_ne (by simp; omega) _).setCell_ne (by simp; omega) _).setCell_ne (by simp; omega) _).setCell_ne (by simp; omega) _).setCell_ne (by simp; omega) _).setCell_ne (by simp; omega) _)
  have F56 : Fr [W0.heap.size, W1.heap.size] W5 W6 := by
    rw [← hW6]; (repeat (first | with_reducible exact Fr.refl _ _ | with_reducible refine Fr.setM ?_ (by simp) _ | with_reducible refine Fr.drew ?_))
  clear hW6 hn1 hn2 hn3 hn4 hfa hfb hO
  have hr1 := hB61.cell
  have hr2 := hB62.cell
  have FF : Fr [] w W6 := Fr.hide F0 ((F1.trans F2).nil.trans (F25.nil.trans F56)) (by simp; omega)
  refine bodyPost_ret (v := .tuple #[.agg #[.slice (some ad) B.cells.length cap, .int .i64 (wrap64 (B.count + 1)), .int .i64 2, .int .i64 cell, .int .u64 via, .int .u64 x, .int .u64 x, .bool true], .agg #[.int .i64 2, .int .i64 cell, .int .u64 via, .int .u64 x, .int .u64 x, .bool true]]) (by simp [results, Try.results160, go_sem, hr1, hr2]) rfl ⟨rfl, FF⟩

set_option maxRecDepth 100000 in
set_option maxHeartbeats 2000000 in
theorem ref_store_diff (B : Bk) (cell via v x : Int) (ad : Addr) (cap : Nat) (w : World) (h : 0 ≤ cell) (h' : cell < (B.cells.length : Int)) (hs : SlI .u64 w (.slice (some ad) B.cells.length cap) B.cells) (hx : getI B.cells cell = x) (hv : ¬ v = x) (hlen : B.cells.length ≤ 100000) :
    Calls Try.prog 160 #[.agg #[.slice (some ad) B.cells.length cap, .int .i64 B.count, .int .i64 B.last.kind, .int .i64 B.last.cell, .int .u64 B.last.via, .int .u64 B.last.old, .int .u64 B.last.new, .bool B.last.done], .int .i64 2, .int .i64 cell, .int .u64 via, .int .u64 0, .int .u64 v] w fun e w' =>
      ∃ g gc : Nat, e = .returned (.tuple #[.agg #[.slice (some ⟨g, 0, none⟩) B.cells.length gc, .int .i64 (wrap64 (B.count + 1)), .int .i64 2, .int .i64 cell, .int .u64 via, .int .u64 x, .int .u64 v, .bool true], .agg #[.int .i64 2, .int .i64 cell, .int .u64 via, .int .u64 x, .int .u64 v, .bool true]]) ∧ Fr [] w w' ∧ SlP (fun b => w.heap.size ≤ b) w' (.slice (some ⟨g, 0, none⟩) B.cells.length gc) (setI B.cells cell v) := by
  obtain ⟨W0, hW0⟩ : ∃ W, w.alloc (.cells #[.slice (some ad) B.cells.length cap, .int .i64 B.count, .int .i64 B.last.kind, .int .i64 B.last.cell, .int .u64 B.last.via, .int .u64 B.last.old, .int .u64 B.last.new, .bool B.last.done] 30) = W := ⟨_, rfl⟩
  have hB0 : Blk W0 w.heap.size #[.slice (some ad) B.cells.length cap, .int .i64 B.count, .int .i64 B.last.kind, .int .i64 B.last.cell, .int .u64 B.last.via, .int .u64 B.last.old, .int .u64 B.last.new, .bool B.last.done] 30 := hW0 ▸ Blk.new _ _ _
  have F0 : Fr [] w W0 := hW0 ▸ (Fr.refl _ _).alloc _
  have hBc0 : ∀ w', Fr [] W0 w' → ∀ i, w'.cell? ⟨w.heap.size, i, none⟩ = _ := fun w' h i => (hB0.fr0 h).cell i
  have hBr0 := Fr.refl [] W0
  obtain ⟨W1, hW1⟩ : ∃ W, W0.alloc (.cells #[.slice none 0 0, .int .i64 0, .int .i64 0, .int .i64 0, .int .u64 0, .int .u64 0, .int .u64 0, .bool false] 30) = W := ⟨_, rfl⟩
  have hB1 : Blk W1 W0.heap.size #[.slice none 0 0, .int .i64 0, .int .i64 0, .int .i64 0, .int .u64 0, .int .u64 0, .int .u64 0, .bool false] 30 := hW1 ▸ Blk.new _ _ _
  have F1 : Fr [] W0 W1 := hW1 ▸ (Fr.refl _ _).alloc _
  have hBc1 : ∀ w', Fr [] W1 w' → ∀ i, w'.cell? ⟨W0.heap.size, i, none⟩ = _ := fun w' h i => (hB1.fr0 h).cell i
  have hBr1 := Fr.refl [] W1
  obtain ⟨W2, hW2⟩ : ∃ W, W1.alloc (.cells #[.int .i64 0, .int .i64 0, .int .u64 0, .int .u64 0, .int .u64 0, .bool false] 28) = W := ⟨_, rfl⟩
  have hB2 : Blk W2 W1.heap.size #[.int .i64 0, .int .i64 0, .int .u64 0, .int .u64 0, .int .u64 0, .bool false] 28 := hW2 ▸ Blk.new _ _ _
  have F2 : Fr [] W1 W2 := hW2 ▸ (Fr.refl _ _).alloc _
  have hBc2 : ∀ w', Fr [] W2 w' → ∀ i, w'.cell? ⟨W1.heap.size, i, none⟩ = _ := fun w' h i => (hB2.fr0 h).cell i
  have hBr2 := Fr.refl [] W2
  have z0 := F0.size
  have z1 := F1.size
  have z2 := F2.size
  clear hBc0 hBc1 hBc2 hBr0 hBr1 hBr2
  have HX := Lib.hid hx; clear hx
  have HS := Lib.hid hs; clear hs
  go_enter Try.func160, Try.ntmps160
  go_upto_region 2 with fail
  refine name_world fun W3 hW3 => ?_
  have FW3 : Fr [] W2 W3 := by rw [← hW3]; (repeat (first | with_reducible assumption | with_reducible exact Fr.refl _ _ | with_reducible refine Fr.setN ?_ (by omega) _ | with_reducible refine Fr.alloc ?_ _ | with_reducible refine Fr.drew ?_))
  have hB3 : Blk W3 W2.heap.size #[.int .i64 2, .int .i64 cell, .int .u64 via, .int .u64 0, .int .u64 0, .bool false] 28 := hW3 ▸ Blk.new _ _ _
  have hn0 := (((hB0.fr0 F1).fr0 F2).fr0 FW3).cell
  clear hW3 hW0 hW1 hW2
  go_upto_region 3 with fail
  refine name_world fun W4 hW4 => ?_
  have FW4 : Fr [] W3 W4 := by rw [← hW4]; (repeat (first | with_reducible assumption | with_reducible exact Fr.refl _ _ | with_reducible refine Fr.setN ?_ (by omega) _ | with_reducible refine Fr.alloc ?_ _ | with_reducible refine Fr.drew ?_))
  have hB4 : Blk W4 W3.heap.size #[.slice (some ad) B.cells.length cap, .int .i64 (wrap64 (B.count + 1)), .int .i64 0, .int .i64 0, .int .u64 0, .int .u64 0, .int .u64 0, .bool false] 30 := hW4 ▸ Blk.new _ _ _
  clear hW4 hn0
  have z3 := FW3.size
  have z4 := FW4.size
  have hB0' := (((hB0.fr0 F1).fr0 F2).fr0 FW3).fr0 FW4
  have hn0 := hB0'.cell
  have hB3' := hB3.fr0 FW4
  have hn3 := hB3'.cell
  have hn4 := hB4.cell
  have hf4 := hB4.frozen
  have hf3 := hB3'.frozen
  have F24 := FW3.trans FW4
  have l0 := hB0.lt
  have l1 := hB1.lt
  have l2 := hB2.lt
  have l3 := hB3.lt
  have l4 := hB4.lt
  have F04 := F0.trans (F1.trans (F2.trans F24))
  have hs4 : SlI .u64 W4 (.slice (some ad) B.cells.length cap) B.cells := SlI.fr HS.out F04 (by simp)
  have hc4 : W4.cell? (ad.add cell.toNat) = some (.int .u64 x) := by rw [← HX.out]; exact SlI.at_ hs4 cell h h'
  have HS4 := Lib.hid hs4; clear hs4
  go_upto_region 12 with fail
  refine name_world fun W7 hW7 => ?_
  have F27 : Fr [] W2 W7 := by rw [← hW7]; (repeat (first | with_reducible assumption | with_reducible exact Fr.refl _ _ | with_reducible refine Fr.setN ?_ (by omega) _ | with_reducible refine Fr.alloc ?_ _ | with_reducible refine Fr.drew ?_))
  have hBb : Blk W7 W2.heap.size #[.int .i64 2, .int .i64 cell, .int .u64 via, .int .u64 x, .int .u64 v, .bool true] 28 := by
    have := ((((hB3'.setCell 3 (.int .u64 x)).setCell 4 (.int .u64 x)).setCell 5 (.bool true)).setCell 4 (.int .u64 v))
    simp only [List.setIfInBounds_toArray, List.set_cons_succ, List.set_cons_zero] at this
    rw [← hW7]; exact this
  have hBa : Blk W7 W3.heap.size #[.slice (some ad) B.cells.length cap, .int .i64 (wrap64 (B.count + 1)), .int .i64 0, .int .i64 0, .int .u64 0, .int .u64 0, .int .u64 0, .bool false] 30 := by
    rw [← hW7]; exact ((((hB4.setCell_ne (by simp; omega) _).setCell_ne (by simp; omega) _).setCell_ne (by simp; omega) _).setCell_ne (by simp; omega) _)
  have hBo : Blk W7 w.heap.size #[.slice (some ad) B.cells.length cap, .int .i64 B.count, .int .i64 B.last.kind, .int .i64 B.last.cell, .int .u64 B.last.via, .int .u64 B.last.old, .int .u64 B.last.new, .bool B.last.done] 30 := by
    rw [← hW7]; exact ((((hB0'.setCell_ne (by simp; omega) _).setCell_ne (by simp; omega) _).setCell_ne (by simp; omega) _).setCell_ne (by simp; omega) _)
  have F07 := F0.trans (F1.trans (F2.trans F27))
  have hs7 : SlI .u64 W7 (.slice (some ad) B.cells.length cap) B.cells := SlI.fr HS.out F07 (by simp)
  have z7 := F27.size
  have l7 := hBa.lt
  clear hW7 hc4
  clear hn0 hn3 hn4 hf4 hf3
  have hn0 := hBo.cell
  have hn3 := hBb.cell
  have hn4 := hBa.cell
  have hf4 := hBa.frozen
  have hf3 := hBb.frozen
  obtain ⟨i0, hi, hz0, hz1, hz2⟩ := info_parts info_word
  have hnews := SlI.news (SlI.fr hs7 ((Fr.refl [] W7).alloc (.cells #[] 26)) (by simp))
  have HNW := Lib.hid hnews; clear hnews
  have HS7 := Lib.hid hs7; clear hs7
  have hpos : 0 < B.cells.length := by omega
  have hnA := (hBo.alloc (.cells #[] 26)).cell
  go_upto_region 14 with (at_builtin; go_loud (refine wpList_append_own _ rfl _ _ 24 rfl W7.heap.size 26 i0 (.int .u64 0) 1 8 Try.underlying24 hi hz0 hz1 hz2 rfl (by decide) _ 0 [] rfl (World.ownsRow_lit W7 #[] 0 (Nat.le_refl _) (Nat.zero_le _) rfl) ad B.cells.length cap (B.cells.map (.int .u64)) rfl ?c1 HNW.out ?c2 ?c3 ?c4 ?c5 ?_))
  case c1 => simp
  case c2 => simp [Value.oneCell']
  case c3 => unfold maxLen; omega
  case c4 => omega
  case c5 => simp
  intro v8 W8 hown8 hgr8 _
  have F78 : Fr [] W7 W8 := Fr.grown ((Fr.refl [] W7).alloc _) hgr8 (by intro k hk; cases hk; exact Nat.le_refl _)
  replace hown8 : W8.ownsRow W7.heap.size 26 1 v8 B.cells.length (B.cells.map (.int .u64)) := by simpa using hown8
  clear hgr8 hnA
  obtain ⟨g, gc, hv8⟩ : ∃ g gc, v8 = .slice (some ⟨g, 0, none⟩) B.cells.length gc := by
    rcases hown8.2 with ⟨_, h0⟩ | ⟨g, gc, _, h, _⟩
    · omega
    · exact ⟨g, gc, h⟩
  subst hv8
  have lg := hown8.lt g rfl
  have z8 := F78.size
  have hBa8 := hBa.fr0 F78
  have hBb8 := hBb.fr0 F78
  clear hn0 hn3 hn4 hf4 hf3
  have hn3 := hBb8.cell
  have hn4 := hBa8.cell
  have hf4 := hBa8.frozen
  have hgc : W8.cell? ⟨g, cell.toNat, none⟩ = some (.int .u64 x) := by
    rw [hown8.cellAt cell.toNat (by omega), List.getElem?_map, List.getElem?_eq_getElem (by omega)]
    rw [← HX.out]; unfold getI; rw [List.getD_eq_getElem?_getD, List.getElem?_eq_getElem (by omega)]; rfl
  have hgf := hown8.frozenAt
  have hg3 : g ≠ W3.heap.size := by omega
  have hg3' : W3.heap.size ≠ g := by omega
  go_upto_region 15 with fail
  refine name_world fun W9 hW9 => ?_
  have F29 : Fr [] W2 W9 := by rw [← hW9]; exact Fr.setN (Fr.setN (F27.trans F78) (by omega) _) (by show W2.heap.size ≤ g; omega) _
  have hBa9 : Blk W9 W3.heap.size #[.slice (some ⟨g, 0, none⟩) B.cells.length gc, .int .i64 (wrap64 (B.count + 1)), .int .i64 0, .int .i64 0, .int .u64 0, .int .u64 0, .int .u64 0, .bool false] 30 := by
    have := (hBa8.setCell 0 (.slice (some ⟨g, 0, none⟩) B.cells.length gc)).setCell_ne (p := ⟨g, cell.toNat, none⟩) hg3' (.int .u64 v)
    simp only [List.setIfInBounds_toArray, List.set_cons_succ, List.set_cons_zero] at this
    rw [← hW9]; exact this
  have hBb9 : Blk W9 W2.heap.size #[.int .i64 2, .int .i64 cell, .int .u64 via, .int .u64 x, .int .u64 v, .bool true] 28 := by
    rw [← hW9]; exact (hBb8.setCell_ne (by simp; omega) _).setCell_ne (by simp; omega) _
  have hs9 : SlP (fun b => W7.heap.size ≤ b) W9 (.slice (some ⟨g, 0, none⟩) B.cells.length gc) (setI B.cells cell v) := by
    have := ((ownsRow_setCell_below hown8 (a := ⟨W3.heap.size, 0, none⟩) (by show W3.heap.size < _; omega) (.slice (some ⟨g, 0, none⟩) B.cells.length gc)).stored cell.toNat (.int .u64 v)).1
    rw [← List.map_set] at this
    rw [← hW9]; exact SlP.own this (setI_length _ _ _).symm
  have hBa := hBa9
  have hBb := hBb9
  clear hW9 hn3 hn4 hf4 hgc hgf hown8
  (try clear hn3 hn4 hf4 hf3)
  have hn3 := hBb.cell
  have hn4 := hBa.cell
  have hf4 := hBa.frozen
  go_upto_region 16 with fail
  refine name_world fun W5 hW5 => ?_
  have F25 : Fr [] W2 W5 := by rw [← hW5]; (repeat (first | with_reducible assumption | with_reducible exact Fr.refl _ _ | with_reducible refine Fr.setN ?_ (by omega) _ | with_reducible refine Fr.alloc ?_ _ | with_reducible refine Fr.drew ?_))
  have hB5 : Blk W5 W3.heap.size #[.slice (some ⟨g, 0, none⟩) B.cells.length gc, .int .i64 (wrap64 (B.count + 1)), .int .i64 2, .int .i64 cell, .int .u64 via, .int .u64 x, .int .u64 v, .bool true] 30 := hW5 ▸ set6at2 hBa _ _ _ _ _ _
  have hB53 : Blk W5 W2.heap.size #[.int .i64 2, .int .i64 cell, .int .u64 via, .int .u64 x, .int .u64 v, .bool true] 28 := by
    rw [← hW5]
    exact ((((((hBb.setCell_ne (by simp; omega) _).setCell_ne (by simp; omega) _).setCell_ne (by simp; omega) _).setCell_ne (by simp; omega) _).setCell_ne (by simp; omega) _).setCell_ne (by simp; omega) _)
  have F15 : Fr [] W1 W5 := F2.trans F25
  have F95 : Fr [W3.heap.size] W9 W5 := by rw [← hW5]; (repeat (first | with_reducible exact Fr.refl _ _ | with_reducible refine Fr.setM ?_ (by simp) _))
  have hs5 := SlP.fr hs9 F95 (by simp; omega)
  clear hW5 hn3 hn4 hf4
  have hn1 := ((hB1.fr0 F2).fr0 F25).cell
  have hn2 := (hB2.fr0 F25).cell
  have hn3 : ∀ w', Ow [W0.heap.size, W1.heap.size] W5 w' → ∀ i, w'.cell? ⟨W2.heap.size, i, none⟩ = _ := fun w' h i => (Blk.ow hB53 h (by simp; omega)).cell i
  have hn4 : ∀ w', Ow [W0.heap.size, W1.heap.size] W5 w' → ∀ i, w'.cell? ⟨W3.heap.size, i, none⟩ = _ := fun w' h i => (Blk.ow hB5 h (by simp; omega)).cell i
  have hfa : ∀ w', Ow [W0.heap.size, W1.heap.size] W5 w' → ∀ i, w'.frozen? ⟨W0.heap.size, i, none⟩ = false := fun w' h i => h.fz _ (by simp) i
  have hfb : ∀ w', Ow [W0.heap.size, W1.heap.size] W5 w' → ∀ i, w'.frozen? ⟨W1.heap.size, i, none⟩ = false := fun w' h i => h.fz _ (by simp) i
  have hO : Ow [W0.heap.size, W1.heap.size] W5 W5 := ⟨Fr.refl _ _, by simp; exact ⟨((hB1.fr0 F2).fr0 F25).frozen, (hB2.fr0 F25).frozen⟩⟩
  go_region_held3 (fun w' => Ow [W0.heap.size, W1.heap.size] W5 w') (repeat (first | with_reducible assumption | with_reducible refine Ow.drew ?_ | with_reducible refine Ow.set ?_ (by simp) _)) (fail)
  go_wp2
  refine name_post (fun W6 hW6 => ?_)
  have hB62 : Blk W6 W1.heap.size #[.int .i64 2, .int .i64 cell, .int .u64 via, .int .u64 x, .int .u64 v, .bool true] 28 := by
    rw [← hW6]
    refine Blk.drew ?_
    exact set6 ((((((((((hB2.fr0 F25).setCell_ne (by simp; omega) _).setCell_ne (by simp; omega) _).setCell_ne (by simp; omega) _).setCell_ne (by simp; omega) _).setCell_ne (by simp; omega) _).setCell_ne (by simp; omega) _).setCell_ne (by simp; omega) _).setCell_ne (by simp; omega) _)) _ _ _ _ _ _
  have hB61 : Blk W6 W0.heap.size #[.slice (some ⟨g, 0, none⟩) B.cells.length gc, .int .i64 (wrap64 (B.count + 1)), .int .i64 2, .int .i64 cell, .int .u64 via, .int .u64 x, .int .u64 v, .bool true] 30 := by
    rw [← hW6]
    refine Blk.drew ?_
    exact (((((((set8 ((hB1.fr0 F2).fr0 F25) _ _ _ _ _ _ _ _).setCell_ne (by simp; omega) _).setCell_ne (by simp; omega) _).setCell_ne (by simp; omega) _).setCell_ne (by simp; omega) _).setCell_ne (by simp; omega) _).setCell_ne (by simp; omega) _)
  have F56 : Fr [W0.heap.size, W1.heap.size] W5 W6 := by
    rw [← hW6]; (repeat (first | with_reducible exact Fr.refl _ _ | with_reducible refine Fr.setM ?_ (by simp) _ | with_reducible refine Fr.drew ?_))
  clear hW6 hn1 hn2 hn3 hn4 hfa hfb hO
  have hr1 := hB61.cell
  have hr2 := hB62.cell
  have FF : Fr [] w W6 := Fr.hide F0 ((F1.trans F2).nil.trans (F25.nil.trans F56)) (by simp; omega)
  refine bodyPost_ret (v := .tuple #[.agg #[.slice (some ⟨g, 0, none⟩) B.cells.length gc, .int .i64 (wrap64 (B.count + 1)), .int .i64 2, .int .i64 cell, .int .u64 via, .int .u64 x, .int .u64 v, .bool true], .agg #[.int .i64 2, .int .i64 cell, .int .u64 via, .int .u64 x, .int .u64 v, .bool true]]) (by simp [results, Try.results160, go_sem, hr1, hr2]) rfl ⟨g, gc, rfl, FF, SlP.mono (SlP.fr hs5 F56 (by simp; omega)) (fun b hb => by omega)⟩
end Go.Proofs.Ytaddjigmdeejlaa
