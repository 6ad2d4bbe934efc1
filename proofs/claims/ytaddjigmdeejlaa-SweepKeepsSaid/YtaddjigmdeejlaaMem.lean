/- Contracts of package mem: each call is the access that the plain definition says. -/
import Derived.Test.YtaddjigmdeejlaaBanke
namespace Go.Proofs.Ytaddjigmdeejlaa
open Go.RowKit Go.Ss

structure MemAt (w : World) (bm bb bc : Nat) (M : Mm) : Prop where
  mem : Blk w bm #[.int .i64 M.c.threads, .int .i64 M.c.slots, .int .i64 M.c.cap, .int .i64 M.c.height, .int .i64 M.c.keep, .int .i64 M.c.every, .int .i64 M.c.last, .pointer (some ⟨bb, 0, none⟩)] 156
  bank : BankAt w bb bc M.b
  n1 : bm ≠ bb
  n2 : bm ≠ bc
  ok : M.Ok

theorem MemAt.fr {S : List Nat} {w w' : World} {bm bb bc : Nat} {M : Mm} (h : MemAt w bm bb bc M) (f : Fr S w w') (h0 : bm ∉ S) (h1 : bb ∉ S) (h2 : bc ∉ S) : MemAt w' bm bb bc M :=
  ⟨h.mem.fr f h0, h.bank.fr f h1 h2, h.n1, h.n2, h.ok⟩
theorem MemAt.fr0 {w w' : World} {bm bb bc : Nat} {M : Mm} (h : MemAt w bm bb bc M) (f : Fr [] w w') : MemAt w' bm bb bc M := h.fr f (by simp) (by simp) (by simp)
theorem MemAt.next {w w' : World} {bm bb bc : Nat} {M : Mm} {B : Bk} (h : MemAt w bm bb bc M) (f : Fr [bb, bc] w w') (hb : BankAt w' bb bc B) (ok : Mm.Ok ⟨M.c, B⟩) : MemAt w' bm bb bc ⟨M.c, B⟩ :=
  ⟨h.mem.fr f (by simp [h.n1, h.n2]), hb, h.n1, h.n2, ok⟩

theorem config_any (c : Cfg) (w : World) : Calls Try.prog 115 #[.agg #[.int .i64 c.threads, .int .i64 c.slots, .int .i64 c.cap, .int .i64 c.height, .int .i64 c.keep, .int .i64 c.every, .int .i64 c.last]] w fun e w' => e = .returned (.agg #[.int .i64 c.threads, .int .i64 c.slots, .int .i64 c.cap, .int .i64 c.height, .int .i64 c.keep, .int .i64 c.every, .int .i64 c.last]) ∧ Fr [] w w' := by
  go_enter Try.func115, Try.ntmps115
  go_wp2
  refine bodyPost_ret (v := .agg #[.int .i64 c.threads, .int .i64 c.slots, .int .i64 c.cap, .int .i64 c.height, .int .i64 c.keep, .int .i64 c.every, .int .i64 c.last]) (by simp [results, Try.results115, go_sem]) rfl ⟨rfl, ((Fr.refl _ _).alloc _).alloc _⟩

theorem metac_any (c : Cfg) (hc : c.R) (i : Int) (w : World) : Calls Try.prog 108 #[.agg #[.int .i64 c.threads, .int .i64 c.slots, .int .i64 c.cap, .int .i64 c.height, .int .i64 c.keep, .int .i64 c.every, .int .i64 c.last], .int .i64 i] w fun e w' => e = .returned (.int .i64 (c.cell i 0)) ∧ Fr [] w w' := by
  obtain ⟨W0, hW0⟩ : ∃ W, w.alloc (.cells #[.int .i64 c.threads, .int .i64 c.slots, .int .i64 c.cap, .int .i64 c.height, .int .i64 c.keep, .int .i64 c.every, .int .i64 c.last] 153) = W := ⟨_, rfl⟩
  have hB0 : Blk W0 w.heap.size #[.int .i64 c.threads, .int .i64 c.slots, .int .i64 c.cap, .int .i64 c.height, .int .i64 c.keep, .int .i64 c.every, .int .i64 c.last] 153 := hW0 ▸ Blk.new _ _ _
  have F0 : Fr [] w W0 := hW0 ▸ (Fr.refl _ _).alloc _
  have hBc0 : ∀ w', Fr [] W0 w' → ∀ i, w'.cell? ⟨w.heap.size, i, none⟩ = _ := fun w' h i => (hB0.fr0 h).cell i
  have hBr0 := Fr.refl [] W0
  go_enter Try.func108, Try.ntmps108
  go_wp2_with (first | (go_at_call 77; refine (cell_any c hc i 0 _).mono ?_; rintro e w1 ⟨rfl, hf⟩; replace hf : Fr [] W0 w1 := Fr.trans (by (first | assumption | exact Fr.refl _ _ | exact (Fr.refl _ _).drew | exact Fr.drew (by assumption))) hf))
  go_ret
  exact ⟨rfl, F0.trans (by assumption)⟩

theorem fieldc_any (c : Cfg) (hc : c.R) (h f : Int) (w : World) (h0 : 0 ≤ h) (h1 : h < 18446744073709551616) : Calls Try.prog 125 #[.agg #[.int .i64 c.threads, .int .i64 c.slots, .int .i64 c.cap, .int .i64 c.height, .int .i64 c.keep, .int .i64 c.every, .int .i64 c.last], .int .u64 h, .int .i64 f] w fun e w' => e = .returned (.int .i64 (c.cell (hidx h) f)) ∧ Fr [] w w' := by
  obtain ⟨W0, hW0⟩ : ∃ W, w.alloc (.cells #[.int .i64 c.threads, .int .i64 c.slots, .int .i64 c.cap, .int .i64 c.height, .int .i64 c.keep, .int .i64 c.every, .int .i64 c.last] 153) = W := ⟨_, rfl⟩
  have hB0 : Blk W0 w.heap.size #[.int .i64 c.threads, .int .i64 c.slots, .int .i64 c.cap, .int .i64 c.height, .int .i64 c.keep, .int .i64 c.every, .int .i64 c.last] 153 := hW0 ▸ Blk.new _ _ _
  have F0 : Fr [] w W0 := hW0 ▸ (Fr.refl _ _).alloc _
  have hBc0 : ∀ w', Fr [] W0 w' → ∀ i, w'.cell? ⟨w.heap.size, i, none⟩ = _ := fun w' h i => (hB0.fr0 h).cell i
  have hBr0 := Fr.refl [] W0
  go_enter Try.func125, Try.ntmps125
  go_wp2_with fail
  go_region_held3 (fun w' => Fr [] W0 w') (repeat (first | assumption | exact Fr.refl _ _ | refine Fr.drew ?_ | refine Fr.set1 ?_ _ | refine Fr.alloc ?_ _ | refine Fr.drewN ?_ _ | exact Fr.nil (by assumption))) (first | (go_at_call 32; refine (index_any h _ h0 h1).mono ?_; rintro e w1 ⟨rfl, hf⟩; replace hf : Fr [] W0 w1 := Fr.trans (by (first | assumption | exact Fr.refl _ _ | exact (Fr.refl _ _).drew | exact Fr.drew (by assumption))) hf) | (go_at_call 77; refine (cell_any c hc (hidx h) f _).mono ?_; rintro e w1 ⟨rfl, hf⟩; replace hf : Fr [] W0 w1 := Fr.trans (by (first | assumption | exact Fr.refl _ _ | exact (Fr.refl _ _).drew | exact Fr.drew (by assumption))) hf))
  go_wp2_with fail
  go_ret
  exact ⟨rfl, F0.trans (by assumption)⟩

theorem mbank_any (bm bb : Nat) (c : Cfg) (w : World) (hm : Blk w bm #[.int .i64 c.threads, .int .i64 c.slots, .int .i64 c.cap, .int .i64 c.height, .int .i64 c.keep, .int .i64 c.every, .int .i64 c.last, .pointer (some ⟨bb, 0, none⟩)] 156) :
    Calls Try.prog 27 #[.pointer (some ⟨bm, 0, none⟩)] w fun e w' => e = .returned (.pointer (some ⟨bb, 0, none⟩)) ∧ w = w' := by
  have hc := hm.cell
  go_enter Try.func27, Try.ntmps27
  go_wp2
  go_ret
  exact ⟨rfl, rfl⟩

theorem clock_any (bm bb bc : Nat) (M : Mm) (w : World) (hm : MemAt w bm bb bc M) :
    Calls Try.prog 158 #[.pointer (some ⟨bm, 0, none⟩)] w fun e w' => e = .returned (.int .u64 M.clock.2) ∧ Fr [bb, bc] w w' ∧ MemAt w' bm bb bc M.clock.1 := by
  have hc := hm.mem.cell
  go_enter Try.func158, Try.ntmps158
  go_wp2_with (go_at_call 107; refine (bload_any bb bc M.b 0 0 _ hm.bank).mono ?_; rintro e w1 ⟨rfl, hf, hb1⟩)
  go_ret
  exact ⟨rfl, hf, hm.next hf hb1 (hm.ok.load _ _)⟩

theorem tick_any (bm bb bc : Nat) (M : Mm) (w : World) (hm : MemAt w bm bb bc M) :
    Calls Try.prog 59 #[.pointer (some ⟨bm, 0, none⟩)] w fun e w' => e = .returned (.int .u64 M.tick.2) ∧ Fr [bb, bc] w w' ∧ MemAt w' bm bb bc M.tick.1 := by
  have hc := hm.mem.cell
  go_enter Try.func59, Try.ntmps59
  go_wp2_with (go_at_call 129; refine (badd_any bb bc M.b 0 0 1 _ hm.bank (by omega) (by omega)).mono ?_; rintro e w1 ⟨rfl, hf, hb1⟩)
  go_ret
  exact ⟨rfl, hf, hm.next hf hb1 (hm.ok.add _ _ _)⟩

set_option maxRecDepth 100000 in
theorem reserve_any (bm bb bc : Nat) (M : Mm) (t s era : Int) (w : World) (hm : MemAt w bm bb bc M) (h0 : 0 ≤ era) (h1 : era < 18446744073709551616) :
    Calls Try.prog 84 #[.pointer (some ⟨bm, 0, none⟩), .int .i64 t, .int .i64 s, .int .u64 era] w fun e w' => e = .returned (.tuple #[]) ∧ Fr [bb, bc] w w' ∧ MemAt w' bm bb bc (M.reserve t s era) := by
  have hmc : ∀ w', Fr [bb, bc] w w' → ∀ i, w'.cell? ⟨bm, i, none⟩ = _ := fun w' h i => (hm.mem.fr h (by simp [hm.n1, hm.n2])).cell i
  have hc := hm.ok.r
  go_enter Try.func84, Try.ntmps84
  go_wp2_with fail
  go_region_held3 (fun w' => Fr [bb, bc] w w') (repeat (first | assumption | exact Fr.refl _ _ | refine Fr.drew ?_ | refine Fr.set1 ?_ _ | refine Fr.alloc ?_ _ | refine Fr.drewN ?_ _ | exact Fr.nil (by assumption))) (first | (go_at_call 116; refine (resv_any M.c hc t s _).mono ?_; rintro e w1 ⟨rfl, hf⟩; replace hf : Fr [] w w1 := Fr.trans (by (first | assumption | exact Fr.refl _ _ | exact (Fr.refl _ _).drew | exact Fr.drew (by assumption))) hf) | (go_at_call 135; refine (bstore_any bb bc M.b _ _ era _ (hm.bank.fr0 (by (first | assumption | exact Fr.refl _ _ | exact (Fr.refl _ _).drew | exact Fr.drew (by assumption)))) h0 h1).mono ?_; rintro e w1 ⟨rfl, hf, hb1⟩; replace hf : Fr [bb, bc] w w1 := Fr.trans (Fr.nil (by (first | assumption | exact Fr.refl _ _ | exact (Fr.refl _ _).drew | exact Fr.drew (by assumption)))) hf))
  go_wp2_with fail
  go_end0
  exact ⟨rfl, hf, hm.next hf hb1 (hm.ok.store _ _ _ h0 h1)⟩
end Go.Proofs.Ytaddjigmdeejlaa
