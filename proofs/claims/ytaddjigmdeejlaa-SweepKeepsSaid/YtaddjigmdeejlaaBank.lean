/- Contracts of package bank: each access is the one that the plain definition says. -/
import Derived.Test.YtaddjigmdeejlaaBankb
import Derived.Test.YtaddjigmdeejlaaBankc
import Derived.Test.YtaddjigmdeejlaaBankd
namespace Go.Proofs.Ytaddjigmdeejlaa
open Go.RowKit Go.Ss

theorem run_field95_3 (v0 v1 v2 v3 v4 v5 : Value) (w : World) : (Instr.field 95 (.agg #[v0, v1, v2, v3, v4, v5]) 3).run Try.prog w = .ok v3 w := by kernel_rfl
theorem run_field95_5 (v0 v1 v2 v3 v4 v5 : Value) (w : World) : (Instr.field 95 (.agg #[v0, v1, v2, v3, v4, v5]) 5).run Try.prog w = .ok v5 w := by kernel_rfl
attribute [go_sem] run_field95_3 run_field95_5

theorem access_load (bb bc : Nat) (B : Bk) (cell via : Int) (w : World) (hb : BankAt w bb bc B) :
    Calls Try.prog 153 #[.pointer (some ⟨bb, 0, none⟩), .agg #[.int .i64 1, .int .i64 cell, .int .u64 via, .int .u64 0, .int .u64 0, .bool false], .func (.func 154) #[] #[]] w fun e w' =>
      e = .returned (.agg #[.int .i64 (B.load cell via).2.kind, .int .i64 (B.load cell via).2.cell, .int .u64 (B.load cell via).2.via, .int .u64 (B.load cell via).2.old, .int .u64 (B.load cell via).2.new, .bool (B.load cell via).2.done]) ∧ Fr [bb, bc] w w' ∧ BankAt w' bb bc (B.load cell via).1 := by
  by_cases h : 0 ≤ cell ∧ cell < (B.cells.length : Int)
  · exact access_load_in bb bc B cell via w hb h.1 h.2
  · exact access_load_out bb bc B cell via w hb h
theorem access_store (bb bc : Nat) (B : Bk) (cell via v : Int) (p : Nat) (w : World) (hb : BankAt w bb bc B) (hv : Blk w p #[.int .u64 v] 26) (v0 : 0 ≤ v) (v1 : v < 18446744073709551616) :
    Calls Try.prog 153 #[.pointer (some ⟨bb, 0, none⟩), .agg #[.int .i64 2, .int .i64 cell, .int .u64 via, .int .u64 0, .int .u64 0, .bool false], .func (.func 171) #[] #[.pointer (some ⟨p, 0, none⟩)]] w fun e w' =>
      e = .returned (.agg #[.int .i64 (B.store cell via v).2.kind, .int .i64 (B.store cell via v).2.cell, .int .u64 (B.store cell via v).2.via, .int .u64 (B.store cell via v).2.old, .int .u64 (B.store cell via v).2.new, .bool (B.store cell via v).2.done]) ∧ Fr [bb, bc] w w' ∧ BankAt w' bb bc (B.store cell via v).1 := by
  by_cases h : 0 ≤ cell ∧ cell < (B.cells.length : Int)
  · exact access_store_in bb bc B cell via v p w hb h.1 h.2 hv v0 v1
  · exact access_store_out bb bc B cell via v p w hb h
theorem access_add (bb bc : Nat) (B : Bk) (cell via v : Int) (p : Nat) (w : World) (hb : BankAt w bb bc B) (hv : Blk w p #[.int .u64 v] 26) (v0 : 0 ≤ v) (v1 : v < 18446744073709551616) :
    Calls Try.prog 153 #[.pointer (some ⟨bb, 0, none⟩), .agg #[.int .i64 4, .int .i64 cell, .int .u64 via, .int .u64 0, .int .u64 0, .bool false], .func (.func 167) #[] #[.pointer (some ⟨p, 0, none⟩)]] w fun e w' =>
      e = .returned (.agg #[.int .i64 (B.add cell via v).2.kind, .int .i64 (B.add cell via v).2.cell, .int .u64 (B.add cell via v).2.via, .int .u64 (B.add cell via v).2.old, .int .u64 (B.add cell via v).2.new, .bool (B.add cell via v).2.done]) ∧ Fr [bb, bc] w w' ∧ BankAt w' bb bc (B.add cell via v).1 := by
  by_cases h : 0 ≤ cell ∧ cell < (B.cells.length : Int)
  · exact access_add_in bb bc B cell via v p w hb h.1 h.2 hv v0 v1
  · exact access_add_out bb bc B cell via v p w hb h
theorem access_swap (bb bc : Nat) (B : Bk) (cell via old v : Int) (p q : Nat) (w : World) (hb : BankAt w bb bc B) (hv : Blk w p #[.int .u64 old] 26) (hv2 : Blk w q #[.int .u64 v] 26) (v0 : 0 ≤ v) (v1 : v < 18446744073709551616) :
    Calls Try.prog 153 #[.pointer (some ⟨bb, 0, none⟩), .agg #[.int .i64 3, .int .i64 cell, .int .u64 via, .int .u64 0, .int .u64 0, .bool false], .func (.func 192) #[] #[.pointer (some ⟨p, 0, none⟩), .pointer (some ⟨q, 0, none⟩)]] w fun e w' =>
      e = .returned (.agg #[.int .i64 (B.swap cell via old v).2.kind, .int .i64 (B.swap cell via old v).2.cell, .int .u64 (B.swap cell via old v).2.via, .int .u64 (B.swap cell via old v).2.old, .int .u64 (B.swap cell via old v).2.new, .bool (B.swap cell via old v).2.done]) ∧ Fr [bb, bc] w w' ∧ BankAt w' bb bc (B.swap cell via old v).1 := by
  by_cases h : 0 ≤ cell ∧ cell < (B.cells.length : Int)
  · by_cases hq : getI B.cells cell = old
    · exact access_swap_in_eq bb bc B cell via old v p q w hb h.1 h.2 hv hv2 v0 v1 hq
    · exact access_swap_in_ne bb bc B cell via old v p q w hb h.1 h.2 hv hv2 hq
  · exact access_swap_out bb bc B cell via old v p q w hb h

theorem bload_any (bb bc : Nat) (B : Bk) (cell via : Int) (w : World) (hb : BankAt w bb bc B) :
    Calls Try.prog 107 #[.pointer (some ⟨bb, 0, none⟩), .int .i64 cell, .int .u64 via] w fun e w' => e = .returned (.int .u64 (B.load cell via).2.old) ∧ Fr [bb, bc] w w' ∧ BankAt w' bb bc (B.load cell via).1 := by
  go_enter Try.func107, Try.ntmps107
  go_wp2_with (go_at_call 153; refine (access_load bb bc B cell via _ hb).mono ?_; rintro e w1 ⟨rfl, hf, hb1⟩)
  go_ret
  exact ⟨rfl, hf, hb1⟩

theorem bstore_any (bb bc : Nat) (B : Bk) (cell via v : Int) (w : World) (hb : BankAt w bb bc B) (v0 : 0 ≤ v) (v1 : v < 18446744073709551616) :
    Calls Try.prog 135 #[.pointer (some ⟨bb, 0, none⟩), .int .i64 cell, .int .u64 via, .int .u64 v] w fun e w' => e = .returned (.tuple #[]) ∧ Fr [bb, bc] w w' ∧ BankAt w' bb bc (B.store cell via v).1 := by
  obtain ⟨W0, hW0⟩ : ∃ W, w.alloc (.cells #[.int .u64 v] 26) = W := ⟨_, rfl⟩
  have hB0 : Blk W0 w.heap.size #[.int .u64 v] 26 := hW0 ▸ Blk.new _ _ _
  have F0 : Fr [] w W0 := hW0 ▸ (Fr.refl _ _).alloc _
  have hBc0 : ∀ w', Fr [] W0 w' → ∀ i, w'.cell? ⟨w.heap.size, i, none⟩ = _ := fun w' h i => (hB0.fr0 h).cell i
  have hBr0 := Fr.refl [] W0
  have hb0 := hb.fr0 F0
  go_enter Try.func135, Try.ntmps135
  go_wp2_with (go_at_call 153; refine (access_store bb bc B cell via v _ _ hb0 hB0 v0 v1).mono ?_; rintro e w1 ⟨rfl, hf, hb1⟩)
  go_end0
  exact ⟨rfl, F0.nil.trans hf, hb1⟩

theorem badd_any (bb bc : Nat) (B : Bk) (cell via v : Int) (w : World) (hb : BankAt w bb bc B) (v0 : 0 ≤ v) (v1 : v < 18446744073709551616) :
    Calls Try.prog 129 #[.pointer (some ⟨bb, 0, none⟩), .int .i64 cell, .int .u64 via, .int .u64 v] w fun e w' => e = .returned (.int .u64 (B.add cell via v).2.old) ∧ Fr [bb, bc] w w' ∧ BankAt w' bb bc (B.add cell via v).1 := by
  obtain ⟨W0, hW0⟩ : ∃ W, w.alloc (.cells #[.int .u64 v] 26) = W := ⟨_, rfl⟩
  have hB0 : Blk W0 w.heap.size #[.int .u64 v] 26 := hW0 ▸ Blk.new _ _ _
  have F0 : Fr [] w W0 := hW0 ▸ (Fr.refl _ _).alloc _
  have hBc0 : ∀ w', Fr [] W0 w' → ∀ i, w'.cell? ⟨w.heap.size, i, none⟩ = _ := fun w' h i => (hB0.fr0 h).cell i
  have hBr0 := Fr.refl [] W0
  have hb0 := hb.fr0 F0
  go_enter Try.func129, Try.ntmps129
  go_wp2_with (go_at_call 153; refine (access_add bb bc B cell via v _ _ hb0 hB0 v0 v1).mono ?_; rintro e w1 ⟨rfl, hf, hb1⟩)
  go_ret
  exact ⟨rfl, F0.nil.trans hf, hb1⟩

theorem bswap_any (bb bc : Nat) (B : Bk) (cell via old v : Int) (w : World) (hb : BankAt w bb bc B) (v0 : 0 ≤ v) (v1 : v < 18446744073709551616) :
    Calls Try.prog 185 #[.pointer (some ⟨bb, 0, none⟩), .int .i64 cell, .int .u64 via, .int .u64 old, .int .u64 v] w fun e w' => e = .returned (.bool (B.swap cell via old v).2.done) ∧ Fr [bb, bc] w w' ∧ BankAt w' bb bc (B.swap cell via old v).1 := by
  obtain ⟨W0, hW0⟩ : ∃ W, w.alloc (.cells #[.int .u64 old] 26) = W := ⟨_, rfl⟩
  have hB0 : Blk W0 w.heap.size #[.int .u64 old] 26 := hW0 ▸ Blk.new _ _ _
  have F0 : Fr [] w W0 := hW0 ▸ (Fr.refl _ _).alloc _
  have hBc0 : ∀ w', Fr [] W0 w' → ∀ i, w'.cell? ⟨w.heap.size, i, none⟩ = _ := fun w' h i => (hB0.fr0 h).cell i
  have hBr0 := Fr.refl [] W0
  obtain ⟨W1, hW1⟩ : ∃ W, W0.alloc (.cells #[.int .u64 v] 26) = W := ⟨_, rfl⟩
  have hB1 : Blk W1 W0.heap.size #[.int .u64 v] 26 := hW1 ▸ Blk.new _ _ _
  have F1 : Fr [] W0 W1 := hW1 ▸ (Fr.refl _ _).alloc _
  have hBc1 : ∀ w', Fr [] W1 w' → ∀ i, w'.cell? ⟨W0.heap.size, i, none⟩ = _ := fun w' h i => (hB1.fr0 h).cell i
  have hBr1 := Fr.refl [] W1
  have hb0 := (hb.fr0 F0).fr0 F1
  have hB0' := hB0.fr0 F1
  go_enter Try.func185, Try.ntmps185
  go_wp2_with (go_at_call 153; refine (access_swap bb bc B cell via old v _ _ _ hb0 hB0' hB1 v0 v1).mono ?_; rintro e w1 ⟨rfl, hf, hb1⟩)
  go_ret
  exact ⟨rfl, (F0.trans F1).nil.trans hf, hb1⟩

theorem bcount_any (bb bc : Nat) (B : Bk) (w : World) (hb : BankAt w bb bc B) :
    Calls Try.prog 63 #[.pointer (some ⟨bb, 0, none⟩)] w fun e w' => e = .returned (.int .i64 B.count) ∧ w = w' := by
  have hc := hb.bank.cell
  go_enter Try.func63, Try.ntmps63
  go_wp2
  go_ret
  exact ⟨rfl, rfl⟩

/-- a slice that reads as a row of words -/
def SrcAt (w : World) (ad : Addr) (l : List Int) : Prop := ∀ j v, (l.map (Value.int .u64))[j]? = some v → w.cell? (ad.add j) = some v
theorem SrcAt.fr {S : List Nat} {w w' : World} {ad : Addr} {l : List Int} (h : SrcAt w ad l) (f : Fr S w w') (hn : ad.block ∉ S) (hlt : ad.block < w.heap.size) : SrcAt w' ad l := fun j v hj => by
  have := h j v hj
  rw [← this]
  have hb : (ad.add j).block = ad.block := by unfold Addr.add; split <;> rfl
  exact World.cell?_of_block (w := w) (by rw [hb]; exact f.block _ hlt hn)
theorem SrcAt.of_blk {w : World} {b T : Nat} {l : List Int} (h : Blk w b (l.map (Value.int .u64)).toArray T) : SrcAt w ⟨b, 0, none⟩ l := fun j v hj => by
  have : (Addr.mk b 0 none).add j = ⟨b, j, none⟩ := by unfold Addr.add; split <;> simp_all
  rw [this, h.cell]; simpa using hj

theorem info_word : (Try.prog.info? 26).map (fun i => (i.zero, i.size, i.bytes)) = some (some (.int .u64 0), 1, 8) := by kernel_rfl
theorem run_make_words (n : Nat) (hn : n ≤ 100000) (w : World) : (Instr.makeSlice 24 (.int .i64 n) (.int .i64 n)).run Try.prog w = .ok (.slice (some ⟨w.heap.size, 0, none⟩) n n) (w.alloc (.cells (zeros (.int .u64 0) n) 26)) := by
  obtain ⟨i0, hi, hz0, hz1, hz2⟩ := info_parts info_word
  have h := run_make (P := Try.prog) w 24 26 i0 (.int .u64 0) Try.underlying24 hi hz0 .i64 .i64 n n (by omega) (Int.le_refl _) (by rw [hz2]; omega) (by omega)
  rw [h, hz1, Int.toNat_natCast, Nat.mul_one]
  show Result.ok _ (w.alloc (.cells (madeCells #[.int .u64 0] n) 26)) = _
  rw [madeCells_zeros]
end Go.Proofs.Ytaddjigmdeejlaa
