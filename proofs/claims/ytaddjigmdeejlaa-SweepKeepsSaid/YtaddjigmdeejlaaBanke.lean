/- Banks that are made, and what they tell of themselves. -/
import Derived.Test.YtaddjigmdeejlaaBank
import Derived.Laws.CopyOwn
namespace Go.Proofs.Ytaddjigmdeejlaa
open Go.RowKit Go.Ss

def NewBank (l : List Int) (w : World) (e : Ending) (w' : World) : Prop :=
  ∃ bb bc : Nat, e = .returned (.pointer (some ⟨bb, 0, none⟩)) ∧ Fr [] w w' ∧ w.heap.size ≤ bb ∧ w.heap.size ≤ bc ∧ BankAt w' bb bc ⟨l, 0, Ss.Acc.zero⟩

theorem oneCell_words (l : List Int) : ∀ v ∈ l.map (Value.int .u64), v.oneCell' = true := by
  intro v hv
  obtain ⟨x, _, rfl⟩ := List.mem_map.1 hv
  rfl

/-- copy(made, src) of the whole -/
theorem run_copy_words (l : List Int) (g : Nat) (ad : Addr) (cap : Nat) (w : World) (hB : Blk w g (zeros (.int .u64 0) l.length) 26) (hs : SrcAt w ad l) :
    (Builtin.copy_ #[24, 24] 3 #[.slice (some ⟨g, 0, none⟩) l.length l.length, .slice (some ad) l.length cap]).run Try.prog w = .ok (goInt (l.length : Int)) (w.setRow g (l.map (Value.int .u64)).toArray) := by
  have hcp := run_copy_row (P := Try.prog) w 24 24 3 26 g 0 l.length l.length ad l.length cap (zeros (.int .u64 0) l.length) 26 (l.map (.int .u64)) Try.underlying24 (by kernel_rfl) hB (by simp) hs (by simp [zeros]) (oneCell_words l)
  have hrow : ((zeros (.int .u64 0) l.length).toList.take 0 ++ l.map (Value.int .u64) ++ (zeros (.int .u64 0) l.length).toList.drop (0 + (l.map (Value.int .u64)).length)).toArray = (l.map (Value.int .u64)).toArray := by simp [zeros]
  rw [hrow] at hcp
  rw [hcp]; simp

set_option maxRecDepth 100000 in
theorem bankOf_any (l : List Int) (ad : Addr) (cap : Nat) (w : World) (hs : SrcAt w ad l) (hlt : ad.block < w.heap.size) (hl : l.length ≤ 100000) (hw : Ws l) :
    Calls Try.prog 106 #[.slice (some ad) l.length cap] w (NewBank l w) := by
  have hmk := run_make_words l.length hl
  obtain ⟨W0, hW0⟩ : ∃ W, w.alloc (.cells (zeros (.int .u64 0) l.length) 26) = W := ⟨_, rfl⟩
  have hB0 : Blk W0 w.heap.size (zeros (.int .u64 0) l.length) 26 := hW0 ▸ Blk.new _ _ _
  have F0 : Fr [] w W0 := hW0 ▸ (Fr.refl _ _).alloc _
  obtain ⟨W1, hW1⟩ : ∃ W, W0.alloc (.cells #[.slice (some ⟨w.heap.size, 0, none⟩) l.length l.length, .int .i64 0, .int .i64 0, .int .i64 0, .int .u64 0, .int .u64 0, .int .u64 0, .bool false] 158) = W := ⟨_, rfl⟩
  have hB1 : Blk W1 W0.heap.size #[.slice (some ⟨w.heap.size, 0, none⟩) l.length l.length, .int .i64 0, .int .i64 0, .int .i64 0, .int .u64 0, .int .u64 0, .int .u64 0, .bool false] 158 := hW1 ▸ Blk.new _ _ _
  have F1 : Fr [] W0 W1 := hW1 ▸ (Fr.refl _ _).alloc _
  have hBc1 : ∀ w', Fr [] W1 w' → ∀ i, w'.cell? ⟨W0.heap.size, i, none⟩ = _ := fun w' h i => (hB1.fr0 h).cell i
  have hBr1 := Fr.refl [] W1
  have hc1 := hB1.cell
  have hB01 := hB0.fr0 F1
  have hs1 : SrcAt W1 ad l := (hs.fr F0 (by simp) hlt).fr F1 (by simp) (Nat.lt_of_lt_of_le hlt F0.size)
  have hcp := run_copy_words l w.heap.size ad cap W1 hB01 hs1
  obtain ⟨W2, hW2⟩ : ∃ W, W1.setRow w.heap.size (l.map (Value.int .u64)).toArray = W := ⟨_, rfl⟩
  rw [hW2] at hcp
  have F2 : Fr [] w W2 := hW2 ▸ (F0.trans F1).setRowN (Nat.le_refl _) _
  have hb2 : Blk W2 w.heap.size (l.map (Value.int .u64)).toArray 26 := hW2 ▸ hB01.setRow _
  have hne : W0.heap.size ≠ w.heap.size := by have := hB0.lt; omega
  have hk2 : Blk W2 W0.heap.size _ _ := hW2 ▸ hB1.setRow_ne hne _
  have hsz := F0.size
  go_enter Try.func106, Try.ntmps106
  go_wp2_with fail
  go_ret
  exact ⟨W0.heap.size, w.heap.size, rfl, F2, hsz, Nat.le_refl _, hk2, hb2, hne, hw, hl⟩

def NewWords (l : List Int) (w : World) (e : Ending) (w' : World) : Prop :=
  ∃ k : Nat, e = .returned (.slice (some ⟨k, 0, none⟩) l.length l.length) ∧ Fr [] w w' ∧ w.heap.size ≤ k ∧ Blk w' k (l.map (Value.int .u64)).toArray 26

set_option maxRecDepth 100000 in
theorem cells_any (bb bc : Nat) (B : Bk) (w : World) (hb : BankAt w bb bc B) :
    Calls Try.prog 28 #[.pointer (some ⟨bb, 0, none⟩)] w (NewWords B.cells w) := by
  have hmk := run_make_words B.cells.length hb.sz
  obtain ⟨W0, hW0⟩ : ∃ W, w.alloc (.cells (zeros (.int .u64 0) B.cells.length) 26) = W := ⟨_, rfl⟩
  have hB0 : Blk W0 w.heap.size (zeros (.int .u64 0) B.cells.length) 26 := hW0 ▸ Blk.new _ _ _
  have F0 : Fr [] w W0 := hW0 ▸ (Fr.refl _ _).alloc _
  have hc := hb.bank.cell
  have hc0 := (hb.fr0 F0).bank.cell
  have hcp := run_copy_words B.cells w.heap.size ⟨bc, 0, none⟩ B.cells.length W0 hB0 (SrcAt.of_blk (hb.fr0 F0).cells)
  obtain ⟨W2, hW2⟩ : ∃ W, W0.setRow w.heap.size (B.cells.map (Value.int .u64)).toArray = W := ⟨_, rfl⟩
  rw [hW2] at hcp
  have F2 : Fr [] w W2 := hW2 ▸ F0.setRowN (Nat.le_refl _) _
  have hb2 : Blk W2 w.heap.size (B.cells.map (Value.int .u64)).toArray 26 := hW2 ▸ hB0.setRow _
  go_enter Try.func28, Try.ntmps28
  go_wp2_with fail
  go_ret
  exact ⟨w.heap.size, rfl, F2, Nat.le_refl _, hb2⟩

theorem last_any (bb bc : Nat) (B : Bk) (w : World) (hb : BankAt w bb bc B) :
    Calls Try.prog 64 #[.pointer (some ⟨bb, 0, none⟩)] w fun e w' => e = .returned (.agg #[.int .i64 B.last.kind, .int .i64 B.last.cell, .int .u64 B.last.via, .int .u64 B.last.old, .int .u64 B.last.new, .bool B.last.done]) ∧ Fr [] w w' := by
  have hc := hb.bank.cell
  obtain ⟨W0, hW0⟩ : ∃ W, w.alloc (.cells #[.int .i64 0, .int .i64 0, .int .u64 0, .int .u64 0, .int .u64 0, .bool false] 95) = W := ⟨_, rfl⟩
  have hB0 : Blk W0 w.heap.size #[.int .i64 0, .int .i64 0, .int .u64 0, .int .u64 0, .int .u64 0, .bool false] 95 := hW0 ▸ Blk.new _ _ _
  have F0 : Fr [] w W0 := hW0 ▸ (Fr.refl _ _).alloc _
  have hBc0 : ∀ w', Fr [] W0 w' → ∀ i, w'.cell? ⟨w.heap.size, i, none⟩ = _ := fun w' h i => (hB0.fr0 h).cell i
  have hBr0 := Fr.refl [] W0
  have hc0 := (hb.fr0 F0).bank.cell
  have hz := hB0.frozen
  have hcc := hB0.cell
  go_enter Try.func64, Try.ntmps64
  go_wp2_with fail
  refine bodyPost_ret (v := .agg #[.int .i64 B.last.kind, .int .i64 B.last.cell, .int .u64 B.last.via, .int .u64 B.last.old, .int .u64 B.last.new, .bool B.last.done]) (by simp [results, Try.results64, go_sem, hcc]) rfl ⟨rfl, ?_⟩
  exact (((((F0.setN (Nat.le_refl _) _).setN (Nat.le_refl _) _).setN (Nat.le_refl _) _).setN (Nat.le_refl _) _).setN (Nat.le_refl _) _).setN (Nat.le_refl _) _
end Go.Proofs.Ytaddjigmdeejlaa
