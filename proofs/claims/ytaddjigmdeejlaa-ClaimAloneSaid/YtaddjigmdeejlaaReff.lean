/- The document's bank: loads, stores, swaps, adds. -/
import Derived.Test.YtaddjigmdeejlaaRefe
namespace Go.Proofs.Ytaddjigmdeejlaa
open Go.RowKit Go.Ss

set_option maxRecDepth 100000 in
set_option maxHeartbeats 2000000 in
theorem refLoad_any {P : Nat → Prop} (B : Bk) (cell via : Int) (s : Value) (w : World) (hs : SlP P w s B.cells) :
    Calls Try.prog 120 #[.agg #[s, .int .i64 B.count, .int .i64 B.last.kind, .int .i64 B.last.cell, .int .u64 B.last.via, .int .u64 B.last.old, .int .u64 B.last.new, .bool B.last.done], .int .i64 cell, .int .u64 via] w fun e w' =>
      e = .returned (.tuple #[.agg #[s, .int .i64 (B.load cell via).1.count, .int .i64 (B.load cell via).1.last.kind, .int .i64 (B.load cell via).1.last.cell, .int .u64 (B.load cell via).1.last.via, .int .u64 (B.load cell via).1.last.old, .int .u64 (B.load cell via).1.last.new, .bool (B.load cell via).1.last.done], .int .u64 (B.load cell via).2.old]) ∧ Fr [] w w' := by
  have hs0 := hs
  obtain ⟨a, cap, rfl⟩ := SlP.form hs0
  obtain ⟨W0, hW0⟩ : ∃ W, w.alloc (.cells #[.slice a B.cells.length cap, .int .i64 B.count, .int .i64 B.last.kind, .int .i64 B.last.cell, .int .u64 B.last.via, .int .u64 B.last.old, .int .u64 B.last.new, .bool B.last.done] 30) = W := ⟨_, rfl⟩
  have hB0 : Blk W0 w.heap.size #[.slice a B.cells.length cap, .int .i64 B.count, .int .i64 B.last.kind, .int .i64 B.last.cell, .int .u64 B.last.via, .int .u64 B.last.old, .int .u64 B.last.new, .bool B.last.done] 30 := hW0 ▸ Blk.new _ _ _
  have F0 : Fr [] w W0 := hW0 ▸ (Fr.refl _ _).alloc _
  have hBc0 : ∀ w', Fr [] W0 w' → ∀ i, w'.cell? ⟨w.heap.size, i, none⟩ = _ := fun w' h i => (hB0.fr0 h).cell i
  have hBr0 := Fr.refl [] W0
  obtain ⟨W1, hW1⟩ : ∃ W, W0.alloc (.cells #[.slice none 0 0, .int .i64 0, .int .i64 0, .int .i64 0, .int .u64 0, .int .u64 0, .int .u64 0, .bool false] 30) = W := ⟨_, rfl⟩
  have hB1 : Blk W1 W0.heap.size #[.slice none 0 0, .int .i64 0, .int .i64 0, .int .i64 0, .int .u64 0, .int .u64 0, .int .u64 0, .bool false] 30 := hW1 ▸ Blk.new _ _ _
  have F1 : Fr [] W0 W1 := hW1 ▸ (Fr.refl _ _).alloc _
  have hBc1 : ∀ w', Fr [] W1 w' → ∀ i, w'.cell? ⟨W0.heap.size, i, none⟩ = _ := fun w' h i => (hB1.fr0 h).cell i
  have hBr1 := Fr.refl [] W1
  have hn0 := (hB0.fr0 F1).cell
  have z0 := F0.size
  have z1 := F1.size
  have l1 := hB1.lt
  have hs1 := SlP.fr0 hs (F0.trans F1)
  have HS := Lib.hid hs; clear hs hs0 hBc0 hBc1 hBr0 hBr1
  go_enter Try.func120, Try.ntmps120
  go_upto_region 2 with (go_at_call 160; refine (refDo_load B cell via _ _ hs1).mono ?_; rintro e W2 ⟨rfl, f2⟩)
  have z2 := f2.size
  refine name_world fun W3 hW3 => ?_
  have hB3 : Blk W3 W2.heap.size #[(.slice a B.cells.length cap), .int .i64 (B.load cell via).1.count, .int .i64 (B.load cell via).1.last.kind, .int .i64 (B.load cell via).1.last.cell, .int .u64 (B.load cell via).1.last.via, .int .u64 (B.load cell via).1.last.old, .int .u64 (B.load cell via).1.last.new, .bool (B.load cell via).1.last.done] 30 := hW3 ▸ (Blk.new W2 _ _).alloc _
  have hB4 : Blk W3 (W2.heap.size + 1) #[.int .i64 (B.load cell via).2.kind, .int .i64 (B.load cell via).2.cell, .int .u64 (B.load cell via).2.via, .int .u64 (B.load cell via).2.old, .int .u64 (B.load cell via).2.new, .bool (B.load cell via).2.done] 28 := hW3 ▸ Blk.new' (W2.alloc _) _ _ _ (by simp)
  have F23 : Fr [] W2 W3 := hW3 ▸ ((Fr.refl _ _).alloc _).alloc _
  clear hW3 hn0
  have hBr := (hB1.fr0 f2).fr0 F23
  have hn1 := hBr.cell
  have hn3 : ∀ w', Ow [W0.heap.size] W3 w' → ∀ i, w'.cell? ⟨W2.heap.size, i, none⟩ = _ := fun w' h i => (Blk.ow hB3 h (by simp; omega)).cell i
  have hn4 : ∀ w', Ow [W0.heap.size] W3 w' → ∀ i, w'.cell? ⟨W2.heap.size + 1, i, none⟩ = _ := fun w' h i => (Blk.ow hB4 h (by simp; omega)).cell i
  have hfa : ∀ w', Ow [W0.heap.size] W3 w' → ∀ i, w'.frozen? ⟨W0.heap.size, i, none⟩ = false := fun w' h i => h.fz _ (by simp) i
  have hO : Ow [W0.heap.size] W3 W3 := ⟨Fr.refl _ _, by simpa using hBr.frozen⟩
  go_region_held3 (fun w' => Ow [W0.heap.size] W3 w') (repeat (first | with_reducible assumption | with_reducible refine Ow.drew ?_ | with_reducible refine Ow.set ?_ (by simp) _)) (fail)
  go_wp2
  refine name_post (fun W6 hW6 => ?_)
  have hB6 : Blk W6 W0.heap.size #[(.slice a B.cells.length cap), .int .i64 (B.load cell via).1.count, .int .i64 (B.load cell via).1.last.kind, .int .i64 (B.load cell via).1.last.cell, .int .u64 (B.load cell via).1.last.via, .int .u64 (B.load cell via).1.last.old, .int .u64 (B.load cell via).1.last.new, .bool (B.load cell via).1.last.done] 30 := by
    rw [← hW6]
    refine Blk.drew ?_
    exact set8 hBr _ _ _ _ _ _ _ _
  have F36 : Fr [W0.heap.size] W3 W6 := by
    rw [← hW6]; (repeat (first | with_reducible exact Fr.refl _ _ | with_reducible refine Fr.setM ?_ (by simp) _ | with_reducible refine Fr.drew ?_))
  clear hW6 hn1 hn3 hn4 hfa hO
  have hr1 := hB6.cell
  have FF : Fr [] w W6 := Fr.hide F0 (((F1.trans f2).trans F23).nil.trans F36) (by simp; omega)
  refine bodyPost_ret (v := .tuple #[.agg #[(.slice a B.cells.length cap), .int .i64 (B.load cell via).1.count, .int .i64 (B.load cell via).1.last.kind, .int .i64 (B.load cell via).1.last.cell, .int .u64 (B.load cell via).1.last.via, .int .u64 (B.load cell via).1.last.old, .int .u64 (B.load cell via).1.last.new, .bool (B.load cell via).1.last.done], .int .u64 (B.load cell via).2.old]) (by simp [results, Try.results120, go_sem, hr1]) rfl ⟨rfl, FF⟩

set_option maxRecDepth 100000 in
set_option maxHeartbeats 2000000 in
theorem refStore_any {P : Nat → Prop} (B : Bk) (cell via v : Int) (s : Value) (w : World) (hs : SlP P w s B.cells) (hP : ∀ b, w.heap.size ≤ b → P b) (hlen : B.cells.length ≤ 100000) :
    Calls Try.prog 159 #[.agg #[s, .int .i64 B.count, .int .i64 B.last.kind, .int .i64 B.last.cell, .int .u64 B.last.via, .int .u64 B.last.old, .int .u64 B.last.new, .bool B.last.done], .int .i64 cell, .int .u64 via, .int .u64 v] w fun e w' =>
      ∃ s', e = .returned (.agg #[s', .int .i64 (B.store cell via v).1.count, .int .i64 (B.store cell via v).1.last.kind, .int .i64 (B.store cell via v).1.last.cell, .int .u64 (B.store cell via v).1.last.via, .int .u64 (B.store cell via v).1.last.old, .int .u64 (B.store cell via v).1.last.new, .bool (B.store cell via v).1.last.done]) ∧ Fr [] w w' ∧ SlP P w' s' (B.store cell via v).1.cells := by
  have hs0 := hs
  obtain ⟨a, cap, rfl⟩ := SlP.form hs0
  obtain ⟨W0, hW0⟩ : ∃ W, w.alloc (.cells #[.slice a B.cells.length cap, .int .i64 B.count, .int .i64 B.last.kind, .int .i64 B.last.cell, .int .u64 B.last.via, .int .u64 B.last.old, .int .u64 B.last.new, .bool B.last.done] 30) = W := ⟨_, rfl⟩
  have hB0 : Blk W0 w.heap.size #[.slice a B.cells.length cap, .int .i64 B.count, .int .i64 B.last.kind, .int .i64 B.last.cell, .int .u64 B.last.via, .int .u64 B.last.old, .int .u64 B.last.new, .bool B.last.done] 30 := hW0 ▸ Blk.new _ _ _
  have F0 : Fr [] w W0 := hW0 ▸ (Fr.refl _ _).alloc _
  have hBc0 : ∀ w', Fr [] W0 w' → ∀ i, w'.cell? ⟨w.heap.size, i, none⟩ = _ := fun w' h i => (hB0.fr0 h).cell i
  have hBr0 := Fr.refl [] W0
  obtain ⟨W1, hW1⟩ : ∃ W, W0.alloc (.cells #[.slice none 0 0, .int .i64 0, .int .i64 0, .int .i64 0, .int .u64 0, .int .u64 0, .int .u64 0, .bool false] 30) = W := ⟨_, rfl⟩
  have hB1 : Blk W1 W0.heap.size #[.slice none 0 0, .int .i64 0, .int .i64 0, .int .i64 0, .int .u64 0, .int .u64 0, .int .u64 0, .bool false] 30 := hW1 ▸ Blk.new _ _ _
  have F1 : Fr [] W0 W1 := hW1 ▸ (Fr.refl _ _).alloc _
  have hBc1 : ∀ w', Fr [] W1 w' → ∀ i, w'.cell? ⟨W0.heap.size, i, none⟩ = _ := fun w' h i => (hB1.fr0 h).cell i
  have hBr1 := Fr.refl [] W1
  have hn0 := (hB0.fr0 F1).cell
  have z0 := F0.size
  have z1 := F1.size
  have l1 := hB1.lt
  have hs1 := SlP.fr0 hs (F0.trans F1)
  have hP1 : ∀ b, W1.heap.size ≤ b → P b ∧ b ≠ W0.heap.size := fun b hb => ⟨hP b (by omega), by omega⟩
  replace hs1 : SlP (fun b => P b ∧ b ≠ W0.heap.size) W1 (.slice a B.cells.length cap) B.cells := SlP.mono (SlP.fr0 (SlP.old hs) (F0.trans F1)) (fun b h => ⟨h.1, by omega⟩)
  have HS := Lib.hid hs; clear hs hs0 hBc0 hBc1 hBr0 hBr1
  go_enter Try.func159, Try.ntmps159
  go_upto_region 2 with (go_at_call 160; refine (refDo_store B cell via v _ _ hs1 hP1 hlen).mono ?_; rintro e W2 ⟨s2, rfl, f2, hs2⟩; obtain ⟨a2, cap2, rfl⟩ := SlP.form hs2)
  have z2 := f2.size
  refine name_world fun W3 hW3 => ?_
  have hB3 : Blk W3 W2.heap.size #[(.slice a2 (B.store cell via v).1.cells.length cap2), .int .i64 (B.store cell via v).1.count, .int .i64 (B.store cell via v).1.last.kind, .int .i64 (B.store cell via v).1.last.cell, .int .u64 (B.store cell via v).1.last.via, .int .u64 (B.store cell via v).1.last.old, .int .u64 (B.store cell via v).1.last.new, .bool (B.store cell via v).1.last.done] 30 := hW3 ▸ (Blk.new W2 _ _).alloc _
  have hB4 : Blk W3 (W2.heap.size + 1) #[.int .i64 (B.store cell via v).2.kind, .int .i64 (B.store cell via v).2.cell, .int .u64 (B.store cell via v).2.via, .int .u64 (B.store cell via v).2.old, .int .u64 (B.store cell via v).2.new, .bool (B.store cell via v).2.done] 28 := hW3 ▸ Blk.new' (W2.alloc _) _ _ _ (by simp)
  have F23 : Fr [] W2 W3 := hW3 ▸ ((Fr.refl _ _).alloc _).alloc _
  clear hW3 hn0
  have hBr := (hB1.fr0 f2).fr0 F23
  have hn1 := hBr.cell
  have hn3 : ∀ w', Ow [W0.heap.size] W3 w' → ∀ i, w'.cell? ⟨W2.heap.size, i, none⟩ = _ := fun w' h i => (Blk.ow hB3 h (by simp; omega)).cell i
  have hn4 : ∀ w', Ow [W0.heap.size] W3 w' → ∀ i, w'.cell? ⟨W2.heap.size + 1, i, none⟩ = _ := fun w' h i => (Blk.ow hB4 h (by simp; omega)).cell i
  have hfa : ∀ w', Ow [W0.heap.size] W3 w' → ∀ i, w'.frozen? ⟨W0.heap.size, i, none⟩ = false := fun w' h i => h.fz _ (by simp) i
  have hO : Ow [W0.heap.size] W3 W3 := ⟨Fr.refl _ _, by simpa using hBr.frozen⟩
  go_wp2
  refine name_post (fun W6 hW6 => ?_)
  have hB6 : Blk W6 W0.heap.size #[(.slice a2 (B.store cell via v).1.cells.length cap2), .int .i64 (B.store cell via v).1.count, .int .i64 (B.store cell via v).1.last.kind, .int .i64 (B.store cell via v).1.last.cell, .int .u64 (B.store cell via v).1.last.via, .int .u64 (B.store cell via v).1.last.old, .int .u64 (B.store cell via v).1.last.new, .bool (B.store cell via v).1.last.done] 30 := by
    rw [← hW6]
    skip
    exact set8 hBr _ _ _ _ _ _ _ _
  have F36 : Fr [W0.heap.size] W3 W6 := by
    rw [← hW6]; (repeat (first | with_reducible exact Fr.refl _ _ | with_reducible refine Fr.setM ?_ (by simp) _ | with_reducible refine Fr.drew ?_))
  clear hW6 hn1 hn3 hn4 hfa hO
  have hr1 := hB6.cell
  have FF : Fr [] w W6 := Fr.hide F0 (((F1.trans f2).trans F23).nil.trans F36) (by simp; omega)
  have hs6 : SlP (fun b => P b ∧ b ≠ W0.heap.size) W6 (.slice a2 _ cap2) _ := SlP.fr (SlP.fr0 hs2 F23) F36 (by simp)
  refine bodyPost_ret (v := .agg #[(.slice a2 (B.store cell via v).1.cells.length cap2), .int .i64 (B.store cell via v).1.count, .int .i64 (B.store cell via v).1.last.kind, .int .i64 (B.store cell via v).1.last.cell, .int .u64 (B.store cell via v).1.last.via, .int .u64 (B.store cell via v).1.last.old, .int .u64 (B.store cell via v).1.last.new, .bool (B.store cell via v).1.last.done]) (by simp [results, Try.results159, go_sem, hr1]) rfl ⟨_, rfl, FF, SlP.mono hs6 (fun b h => h.1)⟩
end Go.Proofs.Ytaddjigmdeejlaa
