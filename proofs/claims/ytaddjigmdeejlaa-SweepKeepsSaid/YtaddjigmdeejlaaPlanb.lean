/- Contracts of package plan over a configuration that is right: how many cells, and which one a field, a reservation is. -/
import Derived.Test.YtaddjigmdeejlaaPlana
namespace Go.Proofs.Ytaddjigmdeejlaa
open Go.RowKit Go.Ss

set_option maxRecDepth 100000 in
theorem len_any (c : Cfg) (hc : c.R) (w : World) : Calls Try.prog 105 #[.agg #[.int .i64 c.threads, .int .i64 c.slots, .int .i64 c.cap, .int .i64 c.height, .int .i64 c.keep, .int .i64 c.every, .int .i64 c.last]] w fun e w' => e = .returned (.int .i64 c.len) ∧ Fr [] w w' := by
  have hr := (Cfg.rB_iff c).2 hc
  have hB : ∀ w', Fr [] (w.alloc (.cells #[.int .i64 c.threads, .int .i64 c.slots, .int .i64 c.cap, .int .i64 c.height, .int .i64 c.keep, .int .i64 c.every, .int .i64 c.last] 23)) w' → ∀ i, w'.cell? ⟨w.heap.size, i, none⟩ = _ := fun w' h i => ((Blk.new w #[.int .i64 c.threads, .int .i64 c.slots, .int .i64 c.cap, .int .i64 c.height, .int .i64 c.keep, .int .i64 c.every, .int .i64 c.last] 23).fr0 h).cell i
  have f1 := hc.first_bd
  have f2 := hc.fields_bd
  have f3 := hc.len_bd
  have f4 := mul_bd (a := c.cap + 1) (b := c.fields) (A := 65) (B := 12) (by have := hc.c0; omega) (by have := hc.c1; omega) (by omega) (by omega)
  have c0 := hc.c0
  have c1 := hc.c1
  have w1' : IntKind.i64.wrap (c.cap + 1) = c.cap + 1 := IntWalk.i64_in _ (by omega)
  have w2' : IntKind.i64.wrap ((c.cap + 1) * c.fields) = (c.cap + 1) * c.fields := IntWalk.i64_in _ (by omega)
  have w3' : IntKind.i64.wrap (c.first + (c.cap + 1) * c.fields) = c.first + (c.cap + 1) * c.fields := IntWalk.i64_in _ (by omega)
  go_enter Try.func105, Try.ntmps105
  go_wp2_with (first | (go_at_call 104; refine (right_any c _).mono ?_; rintro e w1 ⟨rfl, hf1⟩))
  go_region_held3 (fun w' => Fr [] (w.alloc (.cells #[.int .i64 c.threads, .int .i64 c.slots, .int .i64 c.cap, .int .i64 c.height, .int .i64 c.keep, .int .i64 c.every, .int .i64 c.last] 23)) w') (first | exact Fr.drew (by assumption) | assumption | exact Fr.trans (by assumption) (by assumption)) (first | (go_at_call 131; refine (first_any c hc _).mono ?_; rintro e w2 ⟨rfl, hf2⟩) | (go_at_call 132; refine (fields_any c hc _).mono ?_; rintro e w3 ⟨rfl, hf3⟩))
  go_wp2_with fail
  go_ret
  refine ⟨ri (by unfold Cfg.len; rfl), Fr.trans ((Fr.refl _ _).alloc _) (by assumption)⟩

set_option maxRecDepth 100000 in
set_option maxHeartbeats 400000 in
theorem cell_any (c : Cfg) (hc : c.R) (i f : Int) (w : World) : Calls Try.prog 77 #[.agg #[.int .i64 c.threads, .int .i64 c.slots, .int .i64 c.cap, .int .i64 c.height, .int .i64 c.keep, .int .i64 c.every, .int .i64 c.last], .int .i64 i, .int .i64 f] w fun e w' => e = .returned (.int .i64 (c.cell i f)) ∧ Fr [] w w' := by
  have hr := (Cfg.rB_iff c).2 hc
  obtain ⟨W0, hW0⟩ : ∃ W, w.alloc (.cells #[.int .i64 c.threads, .int .i64 c.slots, .int .i64 c.cap, .int .i64 c.height, .int .i64 c.keep, .int .i64 c.every, .int .i64 c.last] 23) = W := ⟨_, rfl⟩
  have hB0 : Blk W0 w.heap.size #[.int .i64 c.threads, .int .i64 c.slots, .int .i64 c.cap, .int .i64 c.height, .int .i64 c.keep, .int .i64 c.every, .int .i64 c.last] 23 := hW0 ▸ Blk.new _ _ _
  have F0 : Fr [] w W0 := hW0 ▸ (Fr.refl _ _).alloc _
  have hBc0 : ∀ w', Fr [] W0 w' → ∀ i, w'.cell? ⟨w.heap.size, i, none⟩ = _ := fun w' h i => (hB0.fr0 h).cell i
  have hBr0 := Fr.refl [] W0
  have f1 := hc.first_bd
  have f2 := hc.fields_bd
  have c0 := hc.c0
  have c1 := hc.c1
  by_cases hi : 0 ≤ i ∧ i ≤ c.cap
  · have hwi : wB i 0 c.cap = true := by simp [wB, hi]
    by_cases hf : 0 ≤ f ∧ f < c.fields
    · have hwf : wB f 0 (c.fields - 1) = true := by simp [wB]; omega
      have f4 := mul_bd (a := i) (b := c.fields) (A := 64) (B := 12) (by omega) (by omega) (by omega) (by omega)
      have w2' : IntKind.i64.wrap (i * c.fields) = i * c.fields := IntWalk.i64_in _ (by omega)
      have w3' : IntKind.i64.wrap (c.first + i * c.fields) = c.first + i * c.fields := IntWalk.i64_in _ (by omega)
      have w4' : IntKind.i64.wrap (c.first + i * c.fields + f) = c.first + i * c.fields + f := IntWalk.i64_in _ (by omega)
      have e : c.cell i f = c.first + i * c.fields + f := by unfold Cfg.cell; rw [if_pos ⟨hi.1, hi.2, hf.1, hf.2⟩]
      have E := Lib.hid e; clear e
      go_enter Try.func77, Try.ntmps77
      go_wp2_with (first | (go_at_call 104; refine (right_any c _).mono ?_; rintro e w1 ⟨rfl, hf⟩; replace hf : Fr [] W0 w1 := Fr.trans (by (first | assumption | exact Fr.refl _ _ | exact (Fr.refl _ _).drew | exact Fr.drew (by assumption))) hf) | (go_at_call 132; refine (fields_any c hc _).mono ?_; rintro e w1 ⟨rfl, hf⟩; replace hf : Fr [] W0 w1 := Fr.trans (by (first | assumption | exact Fr.refl _ _ | exact (Fr.refl _ _).drew | exact Fr.drew (by assumption))) hf) | (go_at_call 131; refine (first_any c hc _).mono ?_; rintro e w1 ⟨rfl, hf⟩; replace hf : Fr [] W0 w1 := Fr.trans (by (first | assumption | exact Fr.refl _ _ | exact (Fr.refl _ _).drew | exact Fr.drew (by assumption))) hf) | (go_at_call 130; refine (pwithin_any _ _ _ _).mono ?_; rintro e w1 ⟨rfl, rfl⟩))
      go_region_held3 (fun w' => Fr [] W0 w') (repeat (first | assumption | exact Fr.refl _ _ | refine Fr.drew ?_ | refine Fr.set1 ?_ _ | refine Fr.alloc ?_ _ | refine Fr.drewN ?_ _ | exact Fr.nil (by assumption))) (first | (go_at_call 104; refine (right_any c _).mono ?_; rintro e w1 ⟨rfl, hf⟩; replace hf : Fr [] W0 w1 := Fr.trans (by (first | assumption | exact Fr.refl _ _ | exact (Fr.refl _ _).drew | exact Fr.drew (by assumption))) hf) | (go_at_call 132; refine (fields_any c hc _).mono ?_; rintro e w1 ⟨rfl, hf⟩; replace hf : Fr [] W0 w1 := Fr.trans (by (first | assumption | exact Fr.refl _ _ | exact (Fr.refl _ _).drew | exact Fr.drew (by assumption))) hf) | (go_at_call 131; refine (first_any c hc _).mono ?_; rintro e w1 ⟨rfl, hf⟩; replace hf : Fr [] W0 w1 := Fr.trans (by (first | assumption | exact Fr.refl _ _ | exact (Fr.refl _ _).drew | exact Fr.drew (by assumption))) hf) | (go_at_call 130; refine (pwithin_any _ _ _ _).mono ?_; rintro e w1 ⟨rfl, rfl⟩))
      go_wp2_with fail
      go_ret
      exact ⟨ri E.out.symm, F0.trans (by assumption)⟩
    · have hwf : wB f 0 (c.fields - 1) = false := by
        unfold wB; rw [Bool.and_eq_false_iff]
        by_cases h : 0 ≤ f
        · right; simp; omega
        · left; simp; omega
      have e : c.cell i f = -1 := by unfold Cfg.cell; rw [if_neg (by omega)]
      have E := Lib.hid e; clear e
      go_enter Try.func77, Try.ntmps77
      go_wp2_with (first | (go_at_call 104; refine (right_any c _).mono ?_; rintro e w1 ⟨rfl, hf⟩; replace hf : Fr [] W0 w1 := Fr.trans (by (first | assumption | exact Fr.refl _ _ | exact (Fr.refl _ _).drew | exact Fr.drew (by assumption))) hf) | (go_at_call 132; refine (fields_any c hc _).mono ?_; rintro e w1 ⟨rfl, hf⟩; replace hf : Fr [] W0 w1 := Fr.trans (by (first | assumption | exact Fr.refl _ _ | exact (Fr.refl _ _).drew | exact Fr.drew (by assumption))) hf) | (go_at_call 131; refine (first_any c hc _).mono ?_; rintro e w1 ⟨rfl, hf⟩; replace hf : Fr [] W0 w1 := Fr.trans (by (first | assumption | exact Fr.refl _ _ | exact (Fr.refl _ _).drew | exact Fr.drew (by assumption))) hf) | (go_at_call 130; refine (pwithin_any _ _ _ _).mono ?_; rintro e w1 ⟨rfl, rfl⟩))
      go_ret
      exact ⟨ri E.out.symm, F0.trans (by assumption)⟩
  · have hwi : wB i 0 c.cap = false := by
      unfold wB; rw [Bool.and_eq_false_iff]
      by_cases h : 0 ≤ i
      · right; simp; omega
      · left; simp; omega
    have e : c.cell i f = -1 := by unfold Cfg.cell; rw [if_neg (by omega)]
    have E := Lib.hid e; clear e
    go_enter Try.func77, Try.ntmps77
    go_wp2_with (first | (go_at_call 104; refine (right_any c _).mono ?_; rintro e w1 ⟨rfl, hf⟩; replace hf : Fr [] W0 w1 := Fr.trans (by (first | assumption | exact Fr.refl _ _ | exact (Fr.refl _ _).drew | exact Fr.drew (by assumption))) hf) | (go_at_call 132; refine (fields_any c hc _).mono ?_; rintro e w1 ⟨rfl, hf⟩; replace hf : Fr [] W0 w1 := Fr.trans (by (first | assumption | exact Fr.refl _ _ | exact (Fr.refl _ _).drew | exact Fr.drew (by assumption))) hf) | (go_at_call 131; refine (first_any c hc _).mono ?_; rintro e w1 ⟨rfl, hf⟩; replace hf : Fr [] W0 w1 := Fr.trans (by (first | assumption | exact Fr.refl _ _ | exact (Fr.refl _ _).drew | exact Fr.drew (by assumption))) hf) | (go_at_call 130; refine (pwithin_any _ _ _ _).mono ?_; rintro e w1 ⟨rfl, rfl⟩))
    go_ret
    exact ⟨ri E.out.symm, F0.trans (by assumption)⟩

set_option maxRecDepth 100000 in
set_option maxHeartbeats 400000 in
theorem resv_any (c : Cfg) (hc : c.R) (t s : Int) (w : World) : Calls Try.prog 116 #[.agg #[.int .i64 c.threads, .int .i64 c.slots, .int .i64 c.cap, .int .i64 c.height, .int .i64 c.keep, .int .i64 c.every, .int .i64 c.last], .int .i64 t, .int .i64 s] w fun e w' => e = .returned (.int .i64 (c.resv t s)) ∧ Fr [] w w' := by
  have hr := (Cfg.rB_iff c).2 hc
  obtain ⟨W0, hW0⟩ : ∃ W, w.alloc (.cells #[.int .i64 c.threads, .int .i64 c.slots, .int .i64 c.cap, .int .i64 c.height, .int .i64 c.keep, .int .i64 c.every, .int .i64 c.last] 23) = W := ⟨_, rfl⟩
  have hB0 : Blk W0 w.heap.size #[.int .i64 c.threads, .int .i64 c.slots, .int .i64 c.cap, .int .i64 c.height, .int .i64 c.keep, .int .i64 c.every, .int .i64 c.last] 23 := hW0 ▸ Blk.new _ _ _
  have F0 : Fr [] w W0 := hW0 ▸ (Fr.refl _ _).alloc _
  have hBc0 : ∀ w', Fr [] W0 w' → ∀ i, w'.cell? ⟨w.heap.size, i, none⟩ = _ := fun w' h i => (hB0.fr0 h).cell i
  have hBr0 := Fr.refl [] W0
  have f1 := hc.first_bd
  have t0 := hc.t0
  have t1 := hc.t1
  have s0 := hc.s0
  have s1 := hc.s1
  by_cases hi : 0 ≤ t ∧ t < c.threads
  · have hwi : wB t 0 (c.threads - 1) = true := by simp [wB]; omega
    by_cases hf : 0 ≤ s ∧ s < c.slots
    · have hwf : wB s 0 (c.slots - 1) = true := by simp [wB]; omega
      have f4 := mul_bd (a := t) (b := c.slots) (A := 8) (B := 8) (by omega) (by omega) (by omega) (by omega)
      have w2' : IntKind.i64.wrap (t * c.slots) = t * c.slots := IntWalk.i64_in _ (by omega)
      have w3' : IntKind.i64.wrap (1 + t * c.slots) = 1 + t * c.slots := IntWalk.i64_in _ (by omega)
      have w4' : IntKind.i64.wrap (1 + t * c.slots + s) = 1 + t * c.slots + s := IntWalk.i64_in _ (by omega)
      have e : c.resv t s = 1 + t * c.slots + s := by unfold Cfg.resv; rw [if_pos ⟨hi.1, hi.2, hf.1, hf.2⟩]
      have E := Lib.hid e; clear e
      go_enter Try.func116, Try.ntmps116
      go_wp2_with (first | (go_at_call 104; refine (right_any c _).mono ?_; rintro e w1 ⟨rfl, hf⟩; replace hf : Fr [] W0 w1 := Fr.trans (by (first | assumption | exact Fr.refl _ _ | exact (Fr.refl _ _).drew | exact Fr.drew (by assumption))) hf) | (go_at_call 132; refine (fields_any c hc _).mono ?_; rintro e w1 ⟨rfl, hf⟩; replace hf : Fr [] W0 w1 := Fr.trans (by (first | assumption | exact Fr.refl _ _ | exact (Fr.refl _ _).drew | exact Fr.drew (by assumption))) hf) | (go_at_call 131; refine (first_any c hc _).mono ?_; rintro e w1 ⟨rfl, hf⟩; replace hf : Fr [] W0 w1 := Fr.trans (by (first | assumption | exact Fr.refl _ _ | exact (Fr.refl _ _).drew | exact Fr.drew (by assumption))) hf) | (go_at_call 130; refine (pwithin_any _ _ _ _).mono ?_; rintro e w1 ⟨rfl, rfl⟩))
      go_ret
      exact ⟨ri E.out.symm, F0.trans (by assumption)⟩
    · have hwf : wB s 0 (c.slots - 1) = false := by
        unfold wB; rw [Bool.and_eq_false_iff]
        by_cases h : 0 ≤ s
        · right; simp; omega
        · left; simp; omega
      have e : c.resv t s = -1 := by unfold Cfg.resv; rw [if_neg (by omega)]
      have E := Lib.hid e; clear e
      go_enter Try.func116, Try.ntmps116
      go_wp2_with (first | (go_at_call 104; refine (right_any c _).mono ?_; rintro e w1 ⟨rfl, hf⟩; replace hf : Fr [] W0 w1 := Fr.trans (by (first | assumption | exact Fr.refl _ _ | exact (Fr.refl _ _).drew | exact Fr.drew (by assumption))) hf) | (go_at_call 132; refine (fields_any c hc _).mono ?_; rintro e w1 ⟨rfl, hf⟩; replace hf : Fr [] W0 w1 := Fr.trans (by (first | assumption | exact Fr.refl _ _ | exact (Fr.refl _ _).drew | exact Fr.drew (by assumption))) hf) | (go_at_call 131; refine (first_any c hc _).mono ?_; rintro e w1 ⟨rfl, hf⟩; replace hf : Fr [] W0 w1 := Fr.trans (by (first | assumption | exact Fr.refl _ _ | exact (Fr.refl _ _).drew | exact Fr.drew (by assumption))) hf) | (go_at_call 130; refine (pwithin_any _ _ _ _).mono ?_; rintro e w1 ⟨rfl, rfl⟩))
      go_ret
      exact ⟨ri E.out.symm, F0.trans (by assumption)⟩
  · have hwi : wB t 0 (c.threads - 1) = false := by
      unfold wB; rw [Bool.and_eq_false_iff]
      by_cases h : 0 ≤ t
      · right; simp; omega
      · left; simp; omega
    have e : c.resv t s = -1 := by unfold Cfg.resv; rw [if_neg (by omega)]
    have E := Lib.hid e; clear e
    go_enter Try.func116, Try.ntmps116
    go_wp2_with (first | (go_at_call 104; refine (right_any c _).mono ?_; rintro e w1 ⟨rfl, hf⟩; replace hf : Fr [] W0 w1 := Fr.trans (by (first | assumption | exact Fr.refl _ _ | exact (Fr.refl _ _).drew | exact Fr.drew (by assumption))) hf) | (go_at_call 132; refine (fields_any c hc _).mono ?_; rintro e w1 ⟨rfl, hf⟩; replace hf : Fr [] W0 w1 := Fr.trans (by (first | assumption | exact Fr.refl _ _ | exact (Fr.refl _ _).drew | exact Fr.drew (by assumption))) hf) | (go_at_call 131; refine (first_any c hc _).mono ?_; rintro e w1 ⟨rfl, hf⟩; replace hf : Fr [] W0 w1 := Fr.trans (by (first | assumption | exact Fr.refl _ _ | exact (Fr.refl _ _).drew | exact Fr.drew (by assumption))) hf) | (go_at_call 130; refine (pwithin_any _ _ _ _).mono ?_; rintro e w1 ⟨rfl, rfl⟩))
    go_ret
    exact ⟨ri E.out.symm, F0.trans (by assumption)⟩
end Go.Proofs.Ytaddjigmdeejlaa
