/- The sentence on two sweeps (alive of layer 15) is true. -/
import Derived.Test.YtaddjigmdeejlaaEnds
import Derived.Test.YtaddjigmdeejlaaSlots
namespace Go.Proofs.Ytaddjigmdeejlaa
open Go.RowKit Go.Ss

namespace AliveFifteen
def c0 : Cfg := ⟨2, 1, 2, 1, 2, 1, 9⟩
theorem hc0 : c0.R := by constructor <;> decide
def m0 : Mm := ⟨c0, ⟨newCells c0, 0, Ss.Acc.zero⟩⟩
def m3 : Mm := ((m0.release 1 1).release 2 1).reserve 1 0 5
def e0 : En := ⟨packW 1 0, 1, 3⟩
def e1 : En := ⟨packW 2 0, 4, 6⟩
def g0 : Gd := ⟨0, 0, 0⟩
def x0 : Sst := ⟨Sw.new [e0, e1], m3, g0⟩
def x4 : Sst := Sst.runs 4 x0
def y0 : Sst := ⟨Sw.new [e0], x4.m, x4.g⟩
def y1 : Sst := Sst.runs 1 y0
end AliveFifteen
open AliveFifteen

theorem run_eql_entry (a0 a1 a2 : Int) (w : World) : (binOp .eql 106 (.agg #[.int .u64 a0, .int .u64 a1, .int .u64 a2]) (.agg #[.int .u64 a0, .int .u64 a1, .int .u64 a2])).run Try.prog w = .ok (.bool true) w := by
  go_simp

set_option maxRecDepth 100000 in
set_option maxHeartbeats 1000000 in
theorem alive15 (w : World) : Calls Try.prog 80 #[] w fun e w' => e = .returned (.bool true) ∧ Fr [] w w' := by
  have k1 : x4.s.l = [e1] := by kernel_rfl
  have k2 : x4.s.seen = [0, 5] := by kernel_rfl
  have k3 : y1.s.l = [e0] := by kernel_rfl
  have k4 : y1.s.seen = [] := by kernel_rfl
  have k5 : (Sst.runs 4 x0).s.st.isDone = true := by kernel_rfl
  have k6 : (Sst.runs 1 y0).s.st.isDone = true := by kernel_rfl
  have k7 : ∀ j, j < 4 → (Sst.runs j x0).s.st.isDone = false := by decide +kernel
  have k8 : ∀ j, j < 1 → (Sst.runs j y0).s.st.isDone = false := by decide +kernel
  have k9 : (y1.m.meta_ 1).2 = 4 := by decide +kernel
  have k10 : ((y1.m.meta_ 1).1.meta_ 2).2 = 1 := by decide +kernel
  have K1 := Lib.hid k1; clear k1
  have K2 := Lib.hid k2; clear k2
  have K3 := Lib.hid k3; clear k3
  have K4 := Lib.hid k4; clear k4
  have K5 := Lib.hid k5; clear k5
  have K6 := Lib.hid k6; clear k6
  have K7 := Lib.hid k7; clear k7
  have K8 := Lib.hid k8; clear k8
  have K9 := Lib.hid k9; clear k9
  have K10 := Lib.hid k10; clear k10
  obtain ⟨W0, hW0⟩ : ∃ W, w.alloc (.cells #[.int .i64 2, .int .i64 1, .int .i64 2, .int .i64 1, .int .i64 2, .int .i64 1, .int .i64 9] 23) = W := ⟨_, rfl⟩
  have hB0 : Blk W0 w.heap.size #[.int .i64 2, .int .i64 1, .int .i64 2, .int .i64 1, .int .i64 2, .int .i64 1, .int .i64 9] 23 := hW0 ▸ Blk.new _ _ _
  have F0 : Fr [] w W0 := hW0 ▸ (Fr.refl _ _).alloc _
  have hBc0 : ∀ w', Fr [] W0 w' → ∀ i, w'.cell? ⟨w.heap.size, i, none⟩ = _ := fun w' h i => (hB0.fr0 h).cell i
  have hBr0 := Fr.refl [] W0
  have hb0 := hB0.cell
  have z0 := F0.size
  clear hBc0 hBr0
  go_enter Try.func80, Try.ntmps80
  go_upto_region 3 with (go_at_call 37; refine (memNew_any c0 hc0 _).mono ?_; rintro e W1 ⟨bm, bb, bc, rfl, f1, q1, q2, q3, hm1⟩)
  replace hm1 : MemAt W1 bm bb bc m0 := hm1
  go_upto_region 4 with (go_at_call 38; refine (guardNew_any 0 _).mono ?_; rintro e W2 ⟨bg, rfl, f2, q4, hg2⟩)
  have hm2 := hm1.fr0 f2
  have l1 := hm1.mem.lt
  have l2 := hm1.bank.bank.lt
  have l3 := hm1.bank.cells.lt
  have l4 := Blk.lt hg2
  have n0 : bg ≠ bm := by omega
  have n1 : bg ≠ bb := by omega
  have n2 : bg ≠ bc := by omega
  replace hg2 : GdAt W2 bg g0 := hg2
  go_upto_region 6 with (go_at_call 27; refine (mbank_any bm bb c0 _ hm2.mem).mono ?_; rintro e w9 ⟨rfl, rfl⟩)
  go_upto_region 7 with (go_at_call 136; refine (release_any bm bb bc m0 1 1 _ hm2 (by omega) (by omega)).mono ?_; rintro e W3 ⟨rfl, f3, hm3⟩)
  go_upto_region 8 with (go_at_call 136; refine (release_any bm bb bc (m0.release 1 1) 2 1 _ hm3 (by omega) (by omega)).mono ?_; rintro e W4 ⟨rfl, f4, hm4⟩)
  go_upto_region 9 with (go_at_call 84; refine (reserve_any bm bb bc ((m0.release 1 1).release 2 1) 1 0 5 _ hm4 (by omega) (by omega)).mono ?_; rintro e W5 ⟨rfl, f5, hm5⟩)
  replace hm5 : MemAt W5 bm bb bc m3 := hm5
  have f25 : Fr [bb, bc] W2 W5 := (f3.trans f4).trans f5
  have hg5 : GdAt W5 bg g0 := Blk.fr hg2 f25 (by simp [n1, n2])
  go_wp2_with fail
  (go_at_call 133; refine (rOf_any 1 0 _ (by omega) (by omega) (by omega) (by omega)).mono ?_; rintro e w9 ⟨rfl, rfl⟩)
  go_wp2_with fail
  (go_at_call 133; refine (rOf_any 2 0 _ (by omega) (by omega) (by omega) (by omega)).mono ?_; rintro e w9 ⟨rfl, rfl⟩)
  go_upto_region 10 with fail
  refine name_world fun W6 hW6 => ?_
  have hB6 : Blk W6 W5.heap.size #[.int .u64 (packW 1 0), .int .u64 1, .int .u64 3, .int .u64 (packW 2 0), .int .u64 4, .int .u64 6] 106 := hW6 ▸ Blk.new _ _ _
  have f56 : Fr [] W5 W6 := hW6 ▸ (Fr.refl _ _).alloc _
  clear hW6
  have hm6 := hm5.fr0 f56
  have hg6 : GdAt W6 bg g0 := Blk.fr0 hg5 f56
  have lk := hB6.lt
  have z25 := f25.size
  generalize W5.heap.size = k at *
  have hrA : RowE (fun _ => True) W6 (.slice (some ⟨k, 0, none⟩) 2 2) [e0, e1] := by
    refine .inr ⟨k, 0, 2, _, rfl, trivial, hB6, Nat.le_refl _, by unfold maxLen; omega, fun i e he => ?_⟩
    match i, he with
    | 0, he => cases he; exact ⟨rfl, rfl, rfl⟩
    | 1, he => cases he; exact ⟨rfl, rfl, rfl⟩
  have hrB : RowE (fun _ => True) W6 (.slice (some ⟨k, 0, none⟩) 1 2) [e0] := by
    refine .inr ⟨k, 0, 2, _, rfl, trivial, hB6, by show 1 ≤ 2; omega, by unfold maxLen; omega, fun i e he => ?_⟩
    match i, he with
    | 0, he => cases he; exact ⟨rfl, rfl, rfl⟩
  have HRA := Lib.hid hrA; clear hrA
  have HRB := Lib.hid hrB; clear hrB
  go_region_held3 (fun w' => Fr [] W6 w') (repeat (first | assumption | exact Fr.refl _ _ | refine Fr.drew ?_ | refine Fr.set1 ?_ _ | refine Fr.alloc ?_ _ | refine Fr.drewN ?_ _ | exact Fr.nil (by assumption))) (first | (go_at_call 79; (with_reducible refine (sweepNew_any (P := fun _ => True) (.slice (some ⟨k, 0, none⟩) 2 2) [e0, e1] _ (RowE.fr0 HRA.out (by (first | assumption | exact Fr.refl _ _ | exact (Fr.refl _ _).drew | exact Fr.drew (by assumption)))) (by decide)).mono ?_); rintro e W7 ⟨ba, rfl, f7, q7, ha7⟩; replace f7 : Fr [] W6 W7 := Fr.trans (by (first | assumption | exact Fr.refl _ _ | exact (Fr.refl _ _).drew | exact Fr.drew (by assumption))) f7) | (go_at_call 79; (with_reducible refine (sweepNew_any (P := fun _ => True) (.slice (some ⟨k, 0, none⟩) 1 2) [e0] _ (RowE.fr0 HRB.out (by (first | assumption | exact Fr.refl _ _ | exact (Fr.refl _ _).drew | exact Fr.drew (by assumption)))) (by decide)).mono ?_); rintro e W8 ⟨bx, rfl, f8, q8, hx8⟩; have f68 : Fr [] W6 W8 := Fr.trans f7 f8))
  have z7 := f7.size
  have z8 := f8.size
  replace q7 : W6.heap.size ≤ ba := q7
  have lba := ha7.lt
  have lbx := hx8.lt
  have z12 := f2.size
  have z56 := f56.size
  have es0 : e0.W := by constructor <;> decide
  have es1 : e1.W := by constructor <;> decide
  have hES : Es [e0, e1] := by intro e he; simp at he; rcases he with rfl | rfl <;> assumption
  have hES0 : Es [e0] := by intro e he; simp at he; subst he; assumption
  have okx : x0.Ok c0 := ⟨Sw.new_ok (by decide) hES hc0, hm5.ok, rfl⟩
  have okx4 : x4.Ok c0 := okx.runs 4
  have oky : y0.Ok c0 := ⟨Sw.new_ok (by decide) hES0 hc0, okx4.m, okx4.c⟩
  have ha8 : SwAt (fun b => W6.heap.size ≤ b ∧ b ≠ ba ∧ ¬ (W7.heap.size ≤ b ∧ b < W8.heap.size)) W8 ba (Sw.new [e0, e1]) :=
    (ha7.mono (fun b hb hlt => ⟨hb.1, hb.2, by omega⟩)).frq (f8.q0 (Q := fun _ => False)) (by simp) (by simp)
  have apa : Apt (fun b => W6.heap.size ≤ b ∧ b ≠ ba ∧ ¬ (W7.heap.size ≤ b ∧ b < W8.heap.size)) W8 ba bg bm bb bc :=
    ⟨by simp, by omega, by omega, by omega, by omega, fun b hb => by omega, by omega, by omega, by omega, by omega, n0, n1, n2⟩
  have hm8 := hm6.fr0 f68
  have hg8 : GdAt W8 bg g0 := Blk.fr0 hg6 f68
  go_upto_region 14 with (go_at_call 81; refine (ends_any _ ba bg bm bb bc x0 c0 4 50 _ apa ⟨ha8, hm8, hg8⟩ okx K5.out K7.out (by decide) (by omega)).mono ?_; rintro e W9 ⟨rfl, f9, hx9⟩)
  have z9 := f9.size
  have hx9b : SwAt (fun b => (W7.heap.size ≤ b ∧ b < W8.heap.size ∧ b ≠ bx) ∨ W9.heap.size ≤ b) W9 bx (Sw.new [e0]) := by
    refine ((hx8.mono (P' := fun b => W7.heap.size ≤ b ∧ b < W8.heap.size ∧ b ≠ bx) (fun b hb hlt => ⟨hb.1, hlt, hb.2⟩)).frq f9 ?_ ?_).mono (fun b hb _ => .inl hb)
    · rintro b ⟨h1, h2, h3⟩ _ hq; rcases hq with h | h | h | h | h
      · exact h.2.2 ⟨h1, h2⟩
      · omega
      · omega
      · omega
      · omega
    · intro hq; rcases hq with h | h | h | h | h
      · exact h.2.2 ⟨q8, lbx⟩
      · omega
      · omega
      · omega
      · omega
  have apb : Apt (fun b => (W7.heap.size ≤ b ∧ b < W8.heap.size ∧ b ≠ bx) ∨ W9.heap.size ≤ b) W9 bx bg bm bb bc :=
    ⟨by simp; omega, by omega, by omega, by omega, by omega, fun b hb => .inr hb, by omega, by omega, by omega, by omega, n0, n1, n2⟩
  go_upto_region 15 with (go_at_call 81; refine (ends_any _ bx bg bm bb bc y0 c0 1 50 _ apb ⟨hx9b, hx9.m, hx9.g⟩ oky K6.out K8.out (by decide) (by omega)).mono ?_; rintro e W10 ⟨rfl, f10, hx10⟩)
  have ha10 : SwAt (fun b => (W6.heap.size ≤ b ∧ b ≠ ba ∧ ¬ (W7.heap.size ≤ b ∧ b < W8.heap.size)) ∧ b < W9.heap.size) W10 ba x4.s := by
    refine (hx9.s.mono (fun b hb hlt => ⟨hb, hlt⟩)).frq f10 ?_ ?_
    · rintro b ⟨⟨h1, h2, h3⟩, h4⟩ _ hq; rcases hq with h | h | h | h | h
      · rcases h with h | h
        · exact h3 ⟨h.1, h.2.1⟩
        · omega
      · exact h3 (by omega)
      · omega
      · omega
      · omega
    · intro hq; rcases hq with h | h | h | h | h
      · rcases h with h | h
        · omega
        · omega
      · omega
      · omega
      · omega
      · omega
  have hB10 : Blk W10 k _ _ := ((hB6.fr0 f68).frq f9 (by intro hq; rcases hq with h | h | h | h | h <;> omega)).frq f10 (by intro hq; rcases hq with h | h | h | h | h; (rcases h with h | h <;> omega); all_goals omega)
  go_upto_region 16 with (first | (go_at_call 83; refine (skept_any ba x4.s _ ha10 (by rw [K1.out]; decide)).mono ?_; rintro e W11 ⟨v11, rfl, f11, hv11⟩; rw [K1.out] at hv11; have ha11 := ha10.frq (f11.q0 (Q := fun _ => False)) (by simp) (by simp)) | (go_at_call 85; refine (sseen_any ba x4.s _ ha11 (by rw [K2.out]; decide)).mono ?_; rintro e W12 ⟨v12, rfl, f12, hv12⟩; rw [K2.out] at hv12))
  obtain ⟨g1, o1, cp1, rfl, pg1, lg1, _, _, hc1⟩ := RowE.cells hv11 (by decide)
  obtain ⟨g2, cp2, rfl⟩ : ∃ g2 cp2, v12 = .slice (some ⟨g2, 0, none⟩) 2 cp2 := by
    rcases hv12.form with ⟨_, h⟩ | ⟨g2, cp2, h⟩
    · cases h
    · exact ⟨g2, cp2, h⟩
  have pg2 := hv12.2 g2 rfl
  have hc2 : W12.cell? ⟨g2, 1, none⟩ = some (.int .u64 5) := by rw [hv12.1.cellAt 1 (by decide)]; rfl
  have z10 := f10.size
  have z11 := f11.size
  have z12' := f12.size
  have hk1 : ∀ w', Fr [bb, bc] W12 w' → w'.cell? ⟨g1, o1, none⟩ = some (.int .u64 (packW 2 0)) ∧ w'.cell? ⟨g1, o1 + 1, none⟩ = some (.int .u64 4) ∧ w'.cell? ⟨g1, o1 + 2, none⟩ = some (.int .u64 6) := fun w' h => by
    have := hc1 0 e1 rfl (· ∈ [bb, bc]) w' ((f12.nil.trans h).q (fun _ h => h)) (by simp; omega)
    simp only [Nat.zero_mul, Nat.add_zero] at this
    exact this
  have hk2 : ∀ w', Fr [bb, bc] W12 w' → ∀ i, w'.cell? ⟨k, i, none⟩ = _ := fun w' h i => (((hB10.fr0 f11).fr0 f12).fr h (by simp; omega)).cell i
  have hk3 : ∀ w', Fr [bb, bc] W12 w' → w'.cell? ⟨g2, 1, none⟩ = some (.int .u64 5) := fun w' h => cell_fr h hc2 (by simp; omega)
  have hm12 := (hx10.m.fr0 f11).fr0 f12
  have hx12 := (hx10.s.frq (f11.q0 (Q := fun _ => False)) (by simp) (by simp)).frq (f12.q0 (Q := fun _ => False)) (by simp) (by simp)
  have hx12' : ∀ w', Fr [bb, bc] W12 w' → SwAt (fun b => (W7.heap.size ≤ b ∧ b < W8.heap.size ∧ b ≠ bx) ∨ W9.heap.size ≤ b) w' bx y1.s := fun w' h => hx12.frq (h.q (Q := (· ∈ [bb, bc])) (fun _ h => h)) (by intro b hb _ hq; simp at hq; omega) (by simp; omega)
  have heq := run_eql_entry (packW 2 0) 4 6
  have l15 : y1.s.l.length = 1 := by rw [K3.out]; rfl
  have l16 : y1.s.seen.length = 0 := by rw [K4.out]; rfl
  have L15 := Lib.hid l15; clear l15
  have L16 := Lib.hid l16; clear l16
  have hrf := Fr.refl [bb, bc] W12
  replace hm12 : MemAt W12 bm bb bc y1.m := hm12
  generalize hpk : packW 2 0 = pk at *
  clear hpk
  go_region_held3 (fun w' => Fr [bb, bc] W12 w') (repeat (first | with_reducible assumption | with_reducible exact Fr.refl _ _ | with_reducible refine Fr.drew ?_ | (with_reducible refine Fr.setM ?_ ?hm _; case hm => (simp; done)) | (with_reducible refine Fr.setN ?_ ?hn _; case hn => omega) | with_reducible refine Fr.alloc ?_ _ | with_reducible exact Fr.nil (by with_reducible assumption))) (first | (go_at_call 29; (with_reducible refine (meta2_any bm bb bc y1.m 1 _ (hm12.fr0 ((Fr.refl _ _).drew))).mono ?_); rintro e W13 ⟨rfl, f13, hm13⟩; rw [K9.out]; replace f13 : Fr [bb, bc] W12 W13 := Fr.trans (Fr.refl _ _).drew f13) | (go_at_call 29; (with_reducible refine (meta2_any bm bb bc (y1.m.meta_ 1).1 2 _ hm13).mono ?_); rintro e W14 ⟨rfl, f14, hm14⟩; rw [K10.out]; replace f14 : Fr [bb, bc] W12 W14 := Fr.trans f13 f14) | (go_at_call 83; refine (skept_any bx y1.s _ (hx12' _ f14) (by rw [L15.out]; omega)).mono ?_; rintro e W15 ⟨v15, rfl, f15, hv15⟩; obtain ⟨a15, c15, rfl⟩ := RowE.form hv15; rw [L15.out]; replace f15 : Fr [bb, bc] W12 W15 := Fr.trans f14 f15.nil) | (go_at_call 85; refine (sseen_any bx y1.s _ (hx12' _ f15) (by rw [L16.out]; omega)).mono ?_; rintro e W16 ⟨v16, rfl, f16, hv16⟩; obtain ⟨a16, c16, rfl⟩ := SlP.form2 hv16.slp; rw [L16.out]; replace f16 : Fr [bb, bc] W12 W16 := Fr.trans f15 f16.nil))
  go_wp2_with fail
  go_ret
  refine ⟨rfl, ?_⟩
  have z3 := f1.size
  have z4 := f2.size
  have fA : Fr [bb, bc] W2 W8 := f25.trans (f56.trans f68).nil
  have fB : FrQ (fun b => w.heap.size ≤ b) W2 W8 := fA.q (by intro x hx; simp at hx; omega)
  have fC : FrQ (fun b => w.heap.size ≤ b) W8 W9 := f9.mono (by intro x hx; rcases hx with h | h | h | h | h <;> omega)
  have fD : FrQ (fun b => w.heap.size ≤ b) W9 W10 := f10.mono (by intro x hx; rcases hx with h | h | h | h | h; (rcases h with h | h <;> omega); all_goals omega)
  have fE : FrQ (fun b => w.heap.size ≤ b) W12 W16 := f16.q (by intro x hx; simp at hx; omega)
  exact FrQ.hide (F0.trans (f1.trans f2)) (fB.trans (fC.trans (fD.trans ((f11.trans f12).q0.trans fE)))) (fun b h => h)
end Go.Proofs.Ytaddjigmdeejlaa
