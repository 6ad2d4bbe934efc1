/- Contracts of package plan: which worlds there are, and where what stands. -/
import Derived.Test.YtaddjigmdeejlaaWords
namespace Go.Proofs.Ytaddjigmdeejlaa
open Go.RowKit Go.Ss

theorem to_any (n a b : Int) (w : World) : Calls Try.prog 152 #[.int .i64 n, .int .i64 a, .int .i64 b] w fun e w' => e = .returned (.int .i64 (clamp n a b)) ∧ w = w' := by
  go_enter Try.func152, Try.ntmps152
  go_wp2
  all_goals (go_ret; exact ⟨ri (by unfold clamp; omega), rfl⟩)

def wB (n a b : Int) : Bool := decide (a ≤ n) && decide (n ≤ b)
theorem pwithin_any (n a b : Int) (w : World) : Calls Try.prog 130 #[.int .i64 n, .int .i64 a, .int .i64 b] w fun e w' => e = .returned (.bool (wB n a b)) ∧ w = w' := by
  by_cases h1 : a ≤ n
  · by_cases h2 : n ≤ b
    · go_enter Try.func130, Try.ntmps130
      go_wp2
      go_ret; exact ⟨rb (by simp [wB, h1, h2]), rfl⟩
    · go_enter Try.func130, Try.ntmps130
      go_wp2
      go_ret; exact ⟨rb (by simp [wB, h1, h2]), rfl⟩
  · go_enter Try.func130, Try.ntmps130
    go_wp2
    go_ret; exact ⟨rb (by unfold wB; rw [decide_eq_false (by omega)]; rfl), rfl⟩

theorem first_any (c : Cfg) (hc : c.R) (w : World) : Calls Try.prog 131 #[.agg #[.int .i64 c.threads, .int .i64 c.slots, .int .i64 c.cap, .int .i64 c.height, .int .i64 c.keep, .int .i64 c.every, .int .i64 c.last]] w fun e w' => e = .returned (.int .i64 c.first) ∧ Fr [] w w' := by
  have h1 := hc.first_bd
  unfold Cfg.first at *
  go_enter Try.func131, Try.ntmps131
  go_wp2
  go_ret; exact ⟨rfl, (Fr.refl _ _).alloc _⟩

theorem fields_any (c : Cfg) (hc : c.R) (w : World) : Calls Try.prog 132 #[.agg #[.int .i64 c.threads, .int .i64 c.slots, .int .i64 c.cap, .int .i64 c.height, .int .i64 c.keep, .int .i64 c.every, .int .i64 c.last]] w fun e w' => e = .returned (.int .i64 c.fields) ∧ Fr [] w w' := by
  have h1 := hc.fields_bd
  unfold Cfg.fields at *
  go_enter Try.func132, Try.ntmps132
  go_wp2
  go_ret; exact ⟨rfl, (Fr.refl _ _).alloc _⟩

def eq7 (a0 a1 a2 a3 a4 a5 a6 b0 b1 b2 b3 b4 b5 b6 : Int) : Bool := decide (a0 = b0) && (decide (a1 = b1) && (decide (a2 = b2) && (decide (a3 = b3) && (decide (a4 = b4) && (decide (a5 = b5) && decide (a6 = b6))))))
theorem run_eql_cfg (a0 a1 a2 a3 a4 a5 a6 b0 b1 b2 b3 b4 b5 b6 : Int) (w : World) :
    (binOp .eql 23 (.agg #[.int .i64 a0, .int .i64 a1, .int .i64 a2, .int .i64 a3, .int .i64 a4, .int .i64 a5, .int .i64 a6]) (.agg #[.int .i64 b0, .int .i64 b1, .int .i64 b2, .int .i64 b3, .int .i64 b4, .int .i64 b5, .int .i64 b6])).run Try.prog w =
      .ok (.bool (eq7 a0 a1 a2 a3 a4 a5 a6 b0 b1 b2 b3 b4 b5 b6)) w := by
  unfold eq7
  go_simp
  by_cases h0 : a0 = b0 <;> simp only [h0, if_true, if_false, decide_true, decide_false, Bool.true_and, Bool.false_and]
  by_cases h1 : a1 = b1 <;> simp only [h1, if_true, if_false, decide_true, decide_false, Bool.true_and, Bool.false_and]
  by_cases h2 : a2 = b2 <;> simp only [h2, if_true, if_false, decide_true, decide_false, Bool.true_and, Bool.false_and]
  by_cases h3 : a3 = b3 <;> simp only [h3, if_true, if_false, decide_true, decide_false, Bool.true_and, Bool.false_and]
  by_cases h4 : a4 = b4 <;> simp only [h4, if_true, if_false, decide_true, decide_false, Bool.true_and, Bool.false_and]
  by_cases h5 : a5 = b5 <;> simp only [h5, if_true, if_false, decide_true, decide_false, Bool.true_and, Bool.false_and]
  by_cases h6 : a6 = b6 <;> simp only [h6, if_true, if_false, decide_true, decide_false]
attribute [go_sem high] run_eql_cfg

theorem clamp_eq {n a b : Int} (h : a ≤ b) : n = clamp n a b ↔ a ≤ n ∧ n ≤ b := by unfold clamp; omega
theorem rB_eq (c : Cfg) : eq7 c.threads c.slots c.cap c.height c.keep c.every c.last (clamp c.threads 1 8) (clamp c.slots 1 8) (clamp c.cap 1 64) (clamp c.height 1 6) (clamp c.keep 1 64) (clamp c.every 1 64) (clamp c.last 0 1073741823) = c.rB := by
  rw [Bool.eq_iff_iff, Cfg.rB_iff]
  unfold eq7
  simp only [Bool.and_eq_true, decide_eq_true_eq]
  rw [clamp_eq (by omega), clamp_eq (by omega), clamp_eq (by omega), clamp_eq (by omega), clamp_eq (by omega), clamp_eq (by omega), clamp_eq (by omega)]
  constructor
  · rintro ⟨⟨a, b⟩, ⟨c, d⟩, ⟨e, f⟩, ⟨g, h⟩, ⟨i, j⟩, ⟨k, l⟩, ⟨m, n⟩⟩
    exact ⟨a, b, c, d, e, f, g, h, i, j, k, l, m, n⟩
  · rintro ⟨a, b, c, d, e, f, g, h, i, j, k, l, m, n⟩
    exact ⟨⟨a, b⟩, ⟨c, d⟩, ⟨e, f⟩, ⟨g, h⟩, ⟨i, j⟩, ⟨k, l⟩, ⟨m, n⟩⟩

set_option maxHeartbeats 2000000 in
set_option maxRecDepth 100000 in
theorem right_any (c : Cfg) (w : World) : Calls Try.prog 104 #[.agg #[.int .i64 c.threads, .int .i64 c.slots, .int .i64 c.cap, .int .i64 c.height, .int .i64 c.keep, .int .i64 c.every, .int .i64 c.last]] w fun e w' => e = .returned (.bool c.rB) ∧ Fr [] w w' := by
  have hB : ∀ w', Fr [] (w.alloc (.cells #[.int .i64 c.threads, .int .i64 c.slots, .int .i64 c.cap, .int .i64 c.height, .int .i64 c.keep, .int .i64 c.every, .int .i64 c.last] 23)) w' → ∀ i, w'.cell? ⟨w.heap.size, i, none⟩ = _ := fun w' h i => ((Blk.new w #[.int .i64 c.threads, .int .i64 c.slots, .int .i64 c.cap, .int .i64 c.height, .int .i64 c.keep, .int .i64 c.every, .int .i64 c.last] 23).fr0 h).cell i
  have hcs := rB_eq c
  have HC := Lib.hid hcs; clear hcs
  go_enter Try.func104, Try.ntmps104
  go_wp2_with fail
  go_region_held3 (fun w' => Fr [] (w.alloc (.cells #[.int .i64 c.threads, .int .i64 c.slots, .int .i64 c.cap, .int .i64 c.height, .int .i64 c.keep, .int .i64 c.every, .int .i64 c.last] 23)) w') (first | exact (Fr.refl _ _).drew | exact Fr.alloc (by assumption) _ | exact (Fr.alloc (Fr.refl _ _) _).drew | assumption) (first | (go_at_call 152; refine (to_any _ _ _ _).mono ?_; rintro e w1 ⟨rfl, rfl⟩))
  all_goals
    go_wp2_with fail
    go_ret
    exact ⟨rb HC.out, (((Fr.refl _ _).alloc _).alloc _).drew⟩
end Go.Proofs.Ytaddjigmdeejlaa
