/- Contracts of package guard. -/
import Derived.Test.YtaddjigmdeejlaaMemc
namespace Go.Proofs.Ytaddjigmdeejlaa
open Go.RowKit Go.Ss

structure Gd where
  many : Int
  latest : Int
  thread : Int

structure Gd.Ok (G : Gd) : Prop where
  m0 : 0 ≤ G.many
  m1 : G.many ≤ 8
  l0 : 0 ≤ G.latest
  l1 : G.latest < 18446744073709551616

def nSlot (many slots : Int) : Int := if many < slots then many else 0
def nMany (many slots : Int) : Int := if many < slots then many + 1 else 1
def nStays (many slots : Int) : Bool := decide (many < slots)

def Gd.publish (G : Gd) (M : Mm) (era : Int) : Gd × Mm × Bool :=
  (⟨nMany G.many M.c.slots, era, G.thread⟩, M.reserve G.thread (nSlot G.many M.c.slots) era, nStays G.many M.c.slots)
def Gd.clear (G : Gd) (M : Mm) (slot : Int) : Gd × Mm :=
  (if slot = M.c.slots - 1 then ⟨0, 0, G.thread⟩ else G, M.reserve G.thread slot 0)

def GdAt (w : World) (bg : Nat) (G : Gd) : Prop := Blk w bg #[.int .i64 G.many, .int .u64 G.latest, .int .i64 G.thread] 57

theorem Gd.publish_ok {G : Gd} (h : G.Ok) {M : Mm} (hs : M.c.slots ≤ 8) (era : Int) (e0 : 0 ≤ era) (e1 : era < 18446744073709551616) : (G.publish M era).1.Ok := by
  have := h.m0; have := h.m1
  refine ⟨?_, ?_, e0, e1⟩
  · show 0 ≤ nMany _ _; unfold nMany; split <;> omega
  · show nMany _ _ ≤ 8; unfold nMany; split <;> omega
theorem Gd.clear_ok {G : Gd} (h : G.Ok) (M : Mm) (slot : Int) : (G.clear M slot).1.Ok := by
  unfold Gd.clear; split
  · exact ⟨Int.le_refl _, by show (0 : Int) ≤ 8; omega, Int.le_refl _, by show (0 : Int) < _; omega⟩
  · exact h

def NewG (thread : Int) (w : World) (e : Ending) (w' : World) : Prop := ∃ bg : Nat, e = .returned (.pointer (some ⟨bg, 0, none⟩)) ∧ Fr [] w w' ∧ w.heap.size ≤ bg ∧ GdAt w' bg ⟨0, 0, thread⟩
theorem guardNew_any (thread : Int) (w : World) : Calls Try.prog 38 #[.int .i64 thread] w (NewG thread w) := by
  go_enter Try.func38, Try.ntmps38
  go_wp2
  go_ret
  exact ⟨w.heap.size, rfl, (Fr.refl _ _).alloc _, Nat.le_refl _, Blk.new _ _ _⟩

theorem latest_any (bg : Nat) (G : Gd) (w : World) (hg : GdAt w bg G) : Calls Try.prog 42 #[.pointer (some ⟨bg, 0, none⟩)] w fun e w' => e = .returned (.int .u64 G.latest) ∧ w = w' := by
  have hc := Blk.cell hg
  go_enter Try.func42, Try.ntmps42
  go_wp2
  go_ret
  exact ⟨rfl, rfl⟩
theorem thread_any (bg : Nat) (G : Gd) (w : World) (hg : GdAt w bg G) : Calls Try.prog 113 #[.pointer (some ⟨bg, 0, none⟩)] w fun e w' => e = .returned (.int .i64 G.thread) ∧ w = w' := by
  have hc := Blk.cell hg
  go_enter Try.func113, Try.ntmps113
  go_wp2
  go_ret
  exact ⟨rfl, rfl⟩

theorem next_any (bg : Nat) (G : Gd) (slots : Int) (w : World) (hg : GdAt w bg G) (h0 : 0 ≤ G.many) (h1 : G.many ≤ 8) :
    Calls Try.prog 114 #[.pointer (some ⟨bg, 0, none⟩), .int .i64 slots] w fun e w' =>
      e = .returned (.tuple #[.int .i64 (nSlot G.many slots), .bool (nStays G.many slots)]) ∧ Fr [bg] w w' ∧ GdAt w' bg ⟨nMany G.many slots, G.latest, G.thread⟩ := by
  have hc := Blk.cell hg
  have hf := Blk.frozen hg
  by_cases hlt : G.many < slots
  · have e1 : nSlot G.many slots = G.many := if_pos hlt
    have e2 : nStays G.many slots = true := decide_eq_true hlt
    have e3 : nMany G.many slots = G.many + 1 := if_pos hlt
    rw [e1, e2, e3]; clear e1 e2 e3
    go_enter Try.func114, Try.ntmps114
    go_wp2
    go_ret2
    exact ⟨rfl, Fr.set1 (Fr.refl _ _) _, by simpa [GdAt] using Blk.setCell hg 0 (.int .i64 (G.many + 1))⟩
  · have e1 : nSlot G.many slots = 0 := if_neg hlt
    have e2 : nStays G.many slots = false := decide_eq_false hlt
    have e3 : nMany G.many slots = 1 := if_neg hlt
    rw [e1, e2, e3]; clear e1 e2 e3
    go_enter Try.func114, Try.ntmps114
    go_wp2
    go_ret2
    exact ⟨rfl, Fr.set1 (Fr.refl _ _) _, by simpa [GdAt] using Blk.setCell hg 0 (.int .i64 1)⟩

theorem run_field23_1 (c0 c1 c2 c3 c4 c5 c6 : Value) (w : World) : (Instr.field 23 (.agg #[c0, c1, c2, c3, c4, c5, c6]) 1).run Try.prog w = .ok c1 w := by kernel_rfl
theorem run_field23_0 (c0 c1 c2 c3 c4 c5 c6 : Value) (w : World) : (Instr.field 23 (.agg #[c0, c1, c2, c3, c4, c5, c6]) 0).run Try.prog w = .ok c0 w := by kernel_rfl
theorem run_field23_2 (c0 c1 c2 c3 c4 c5 c6 : Value) (w : World) : (Instr.field 23 (.agg #[c0, c1, c2, c3, c4, c5, c6]) 2).run Try.prog w = .ok c2 w := by kernel_rfl
theorem run_field23_3 (c0 c1 c2 c3 c4 c5 c6 : Value) (w : World) : (Instr.field 23 (.agg #[c0, c1, c2, c3, c4, c5, c6]) 3).run Try.prog w = .ok c3 w := by kernel_rfl
theorem run_field23_4 (c0 c1 c2 c3 c4 c5 c6 : Value) (w : World) : (Instr.field 23 (.agg #[c0, c1, c2, c3, c4, c5, c6]) 4).run Try.prog w = .ok c4 w := by kernel_rfl
theorem run_field23_6 (c0 c1 c2 c3 c4 c5 c6 : Value) (w : World) : (Instr.field 23 (.agg #[c0, c1, c2, c3, c4, c5, c6]) 6).run Try.prog w = .ok c6 w := by kernel_rfl
attribute [go_sem] run_field23_0 run_field23_1 run_field23_2 run_field23_3 run_field23_4 run_field23_6

set_option maxRecDepth 100000 in
theorem check_any (bg bm bb bc : Nat) (G : Gd) (M : Mm) (w : World) (hg : GdAt w bg G) (hm : MemAt w bm bb bc M) (n1 : bg ≠ bb) (n2 : bg ≠ bc) :
    Calls Try.prog 111 #[.pointer (some ⟨bg, 0, none⟩), .pointer (some ⟨bm, 0, none⟩)] w fun e w' =>
      e = .returned (.tuple #[.int .u64 M.clock.2, .bool (M.clock.2 == G.latest)]) ∧ Fr [bb, bc] w w' ∧ MemAt w' bm bb bc M.clock.1 := by
  have hgc : ∀ w', Fr [bb, bc] w w' → ∀ i, w'.cell? ⟨bg, i, none⟩ = _ := fun w' h i => (Blk.fr hg h (by simp [n1, n2])).cell i
  go_enter Try.func111, Try.ntmps111
  go_wp2_with (first | (go_at_call 158; refine (clock_any bm bb bc M _ hm).mono ?_; rintro e w1 ⟨rfl, hf, hm1⟩))
  go_region_held3 (fun w' => Fr [bb, bc] w w') (repeat (first | assumption | exact Fr.refl _ _ | refine Fr.drew ?_ | refine Fr.set1 ?_ _ | refine Fr.alloc ?_ _ | refine Fr.drewN ?_ _ | exact Fr.nil (by assumption))) (first | fail)
  go_wp2_with fail
  go_ret2
  exact ⟨rfl, hf.drew, hm1.fr0 ((Fr.refl _ _).drew)⟩

set_option maxRecDepth 100000 in
theorem publish_any (bg bm bb bc : Nat) (G : Gd) (M : Mm) (era : Int) (w : World) (hg : GdAt w bg G) (hm : MemAt w bm bb bc M) (n0 : bg ≠ bm) (n1 : bg ≠ bb) (n2 : bg ≠ bc) (ok : G.Ok) (e0 : 0 ≤ era) (e1 : era < 18446744073709551616) :
    Calls Try.prog 40 #[.pointer (some ⟨bg, 0, none⟩), .pointer (some ⟨bm, 0, none⟩), .int .u64 era] w fun e w' =>
      e = .returned (.bool (G.publish M era).2.2) ∧ Fr [bg, bb, bc] w w' ∧ MemAt w' bm bb bc (G.publish M era).2.1 ∧ GdAt w' bg (G.publish M era).1 := by
  have hmc : ∀ w', Fr [bg] w w' → ∀ i, w'.cell? ⟨bm, i, none⟩ = _ := fun w' h i => (hm.mem.fr h (by simpa using n0.symm)).cell i
  go_enter Try.func40, Try.ntmps40
  go_wp2_with fail
  go_region_held3 (fun w' => Fr [bg] w w') (repeat (first | assumption | exact Fr.refl _ _ | refine Fr.drew ?_ | refine Fr.set1 ?_ _ | refine Fr.alloc ?_ _ | refine Fr.drewN ?_ _ | exact Fr.nil (by assumption))) (first | (go_at_call 115; refine (config_any M.c _).mono ?_; rintro e w1 ⟨rfl, hf⟩; replace hf : Fr [] w w1 := Fr.trans (by (first | assumption | exact Fr.refl _ _ | exact (Fr.refl _ _).drew | exact Fr.drew (by assumption))) hf) | (go_at_call 114; refine (next_any bg G M.c.slots _ (Blk.fr0 hg (by (first | assumption | exact Fr.refl _ _ | exact (Fr.refl _ _).drew | exact Fr.drew (by assumption)))) ok.m0 ok.m1).mono ?_; rintro e w2 ⟨rfl, hf, hg2⟩; replace hf : Fr [bg] w w2 := Fr.trans (Fr.nil (by (first | assumption | exact Fr.refl _ _ | exact (Fr.refl _ _).drew | exact Fr.drew (by assumption)))) hf))
  have hg2c := Blk.cell hg2
  have hm2 := hm.fr hf (by simpa using n0.symm) (by simpa using n1.symm) (by simpa using n2.symm)
  go_upto_region 3 with (go_at_call 84; refine (reserve_any bm bb bc M _ _ era _ hm2 e0 e1).mono ?_; rintro e w3 ⟨rfl, hf3, hm3⟩)
  have hg3 : GdAt w3 bg _ := Blk.fr hg2 hf3 (by simp [n1, n2])
  have hg3c := Blk.cell hg3
  have hg3f := Blk.frozen hg3
  go_wp2_with fail
  go_ret
  have hF : Fr [bg, bb, bc] w w3 := (hf.mono (by simp)).trans (hf3.mono (by simp))
  refine ⟨rfl, hF.setM (by simp) _, ?_, by simpa [GdAt, Gd.publish] using Blk.setCell hg3 1 (.int .u64 era)⟩
  exact hm3.fr (Fr.set1 (Fr.refl [bg] w3) (.int .u64 era)) (by simpa using n0.symm) (by simpa using n1.symm) (by simpa using n2.symm)

set_option maxRecDepth 100000 in
theorem clear_any (bg bm bb bc : Nat) (G : Gd) (M : Mm) (slot : Int) (w : World) (hg : GdAt w bg G) (hm : MemAt w bm bb bc M) (n0 : bg ≠ bm) (n1 : bg ≠ bb) (n2 : bg ≠ bc) :
    Calls Try.prog 112 #[.pointer (some ⟨bg, 0, none⟩), .pointer (some ⟨bm, 0, none⟩), .int .i64 slot] w fun e w' =>
      e = .returned (.tuple #[]) ∧ Fr [bg, bb, bc] w w' ∧ MemAt w' bm bb bc (G.clear M slot).2 ∧ GdAt w' bg (G.clear M slot).1 := by
  have hgc := Blk.cell hg
  have s0 := hm.ok.r.s0
  have s1 := hm.ok.r.s1
  by_cases hs : slot = M.c.slots - 1
  · have hd : ((slot : Int) == M.c.slots - 1) = true := by rw [beq_iff_eq]; exact hs
    have HS := Lib.hid hs; clear hs
    go_enter Try.func112, Try.ntmps112
    go_upto_region 1 with (go_at_call 84; refine (reserve_any bm bb bc M _ _ 0 _ hm (by omega) (by omega)).mono ?_; rintro e W1 ⟨rfl, hf1, hm1⟩)
    have hg1 : GdAt W1 bg _ := Blk.fr hg hf1 (by simp [n1, n2])
    have hm1c : ∀ w', Fr [] W1 w' → ∀ i, w'.cell? ⟨bm, i, none⟩ = _ := fun w' h i => (hm1.mem.fr0 h).cell i
    have hg1c : ∀ w', Fr [] W1 w' → ∀ i, w'.cell? ⟨bg, i, none⟩ = _ := fun w' h i => (Blk.fr0 hg1 h).cell i
    have hg1f : ∀ w', Fr [] W1 w' → ∀ i, w'.frozen? ⟨bg, i, none⟩ = false := fun w' h => (Blk.fr0 hg1 h).frozen
    have hrf := Fr.refl [] W1
    go_wp2_with (first | (go_at_call 115; refine (config_any M.c _).mono ?_; rintro e w1 ⟨rfl, hf⟩; replace hf : Fr [] W1 w1 := Fr.trans (by (first | assumption | exact Fr.refl _ _ | exact (Fr.refl _ _).drew | exact Fr.drew (by assumption))) hf))
    go_end0
    have hF : Fr [bg, bb, bc] w w1 := (hf1.mono (by simp)).trans hf.nil
    have hg2 := Blk.fr0 hg1 hf
    have e1 : (G.clear M slot).1 = ⟨0, 0, G.thread⟩ := if_pos HS.out
    rw [e1]
    refine ⟨rfl, (hF.setM (by simp) _).setM (by simp) _, ?_, by simpa [GdAt] using (Blk.setCell (Blk.setCell hg2 0 (.int .i64 0)) 1 (.int .u64 0))⟩
    exact (hm1.fr0 hf).fr (Fr.set1 (Fr.set1 (Fr.refl [bg] w1) (.int .i64 0)) (.int .u64 0)) (by simpa using n0.symm) (by simpa using n1.symm) (by simpa using n2.symm)
  · have hd : ((slot : Int) == M.c.slots - 1) = false := by rw [beq_eq_false_iff_ne]; exact hs
    have HS := Lib.hid hs; clear hs
    go_enter Try.func112, Try.ntmps112
    go_upto_region 1 with (go_at_call 84; refine (reserve_any bm bb bc M _ _ 0 _ hm (by omega) (by omega)).mono ?_; rintro e W1 ⟨rfl, hf1, hm1⟩)
    have hg1 : GdAt W1 bg _ := Blk.fr hg hf1 (by simp [n1, n2])
    have hm1c : ∀ w', Fr [] W1 w' → ∀ i, w'.cell? ⟨bm, i, none⟩ = _ := fun w' h i => (hm1.mem.fr0 h).cell i
    have hg1c : ∀ w', Fr [] W1 w' → ∀ i, w'.cell? ⟨bg, i, none⟩ = _ := fun w' h i => (Blk.fr0 hg1 h).cell i
    have hg1f : ∀ w', Fr [] W1 w' → ∀ i, w'.frozen? ⟨bg, i, none⟩ = false := fun w' h => (Blk.fr0 hg1 h).frozen
    have hrf := Fr.refl [] W1
    go_wp2_with (first | (go_at_call 115; refine (config_any M.c _).mono ?_; rintro e w1 ⟨rfl, hf⟩; replace hf : Fr [] W1 w1 := Fr.trans (by (first | assumption | exact Fr.refl _ _ | exact (Fr.refl _ _).drew | exact Fr.drew (by assumption))) hf))
    go_end0
    have hF : Fr [bg, bb, bc] w w1 := (hf1.mono (by simp)).trans hf.nil
    have e1 : (G.clear M slot).1 = G := if_neg HS.out
    rw [e1]
    exact ⟨rfl, hF, hm1.fr0 hf, Blk.fr0 hg1 hf⟩
end Go.Proofs.Ytaddjigmdeejlaa
