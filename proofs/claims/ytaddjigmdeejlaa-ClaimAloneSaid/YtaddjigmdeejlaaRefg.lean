/- The document's plan and slots, of a config that is right. -/
import Derived.Test.YtaddjigmdeejlaaReff
namespace Go.Proofs.Ytaddjigmdeejlaa
open Go.RowKit Go.Ss

set_option maxRecDepth 100000 in
theorem refRight_any (c : Cfg) (hc : c.R) (w : World) : Calls Try.prog 98 #[.agg #[.int .i64 c.threads, .int .i64 c.slots, .int .i64 c.cap, .int .i64 c.height, .int .i64 c.keep, .int .i64 c.every, .int .i64 c.last]] w fun e w' => e = .returned (.bool true) ∧ Fr [] w w' := by
  obtain ⟨t0, t1, s0, s1, c0, c1, h0, h1, k0, k1, e0, e1, q0, q1⟩ := hc
  have a1 : ¬ c.threads < 1 := by omega
  have a2 : ¬ (8 : Int) < c.threads := by omega
  have a3 : ¬ c.slots < 1 := by omega
  have a4 : ¬ (8 : Int) < c.slots := by omega
  have a5 : ¬ c.cap < 1 := by omega
  have a6 : ¬ (64 : Int) < c.cap := by omega
  have a7 : ¬ c.height < 1 := by omega
  have a8 : ¬ (6 : Int) < c.height := by omega
  obtain ⟨W0, hW0⟩ : ∃ W, w.alloc (.cells #[.int .i64 c.threads, .int .i64 c.slots, .int .i64 c.cap, .int .i64 c.height, .int .i64 c.keep, .int .i64 c.every, .int .i64 c.last] 23) = W := ⟨_, rfl⟩
  have hB0 : Blk W0 w.heap.size #[.int .i64 c.threads, .int .i64 c.slots, .int .i64 c.cap, .int .i64 c.height, .int .i64 c.keep, .int .i64 c.every, .int .i64 c.last] 23 := hW0 ▸ Blk.new _ _ _
  have F0 : Fr [] w W0 := hW0 ▸ (Fr.refl _ _).alloc _
  have hBc0 : ∀ w', Fr [] W0 w' → ∀ i, w'.cell? ⟨w.heap.size, i, none⟩ = _ := fun w' h i => (hB0.fr0 h).cell i
  have hBr0 := Fr.refl [] W0
  go_enter Try.func98, Try.ntmps98
  go_wp2_with fail
  go_ret
  exact ⟨rfl, F0⟩

set_option maxRecDepth 100000 in
theorem refLen_any (c : Cfg) (hc : c.R) (w : World) : Calls Try.prog 99 #[.agg #[.int .i64 c.threads, .int .i64 c.slots, .int .i64 c.cap, .int .i64 c.height, .int .i64 c.keep, .int .i64 c.every, .int .i64 c.last]] w fun e w' => e = .returned (.int .i64 c.len) ∧ Fr [] w w' := by
  have hb := hc.len_bd
  have hf := hc.fields_bd
  have hfi := hc.first_bd
  have f4 := mul_bd (a := c.threads) (b := c.slots) (A := 8) (B := 8) (by have := hc.t0; omega) hc.t1 (by have := hc.s0; omega) hc.s1
  have f5 := mul_bd (a := c.cap + 1) (b := c.fields) (A := 65) (B := 12) (by have := hc.c0; omega) (by have := hc.c1; omega) (by omega) (by omega)
  have c1 := hc.c1
  have c0 := hc.c0
  have h0 := hc.h0
  have h1 := hc.h1
  have e : c.len = 1 + c.threads * c.slots + (c.cap + 1) * (6 + c.height) := rfl
  have hfl : c.fields = 6 + c.height := rfl
  rw [hfl] at f5
  have w1' : IntKind.i64.wrap (c.threads * c.slots) = c.threads * c.slots := IntWalk.i64_in _ (by omega)
  have w2' : IntKind.i64.wrap (1 + c.threads * c.slots) = 1 + c.threads * c.slots := IntWalk.i64_in _ (by omega)
  have w3' : IntKind.i64.wrap (c.cap + 1) = c.cap + 1 := IntWalk.i64_in _ (by omega)
  have w4' : IntKind.i64.wrap (6 + c.height) = 6 + c.height := IntWalk.i64_in _ (by omega)
  have w5' : IntKind.i64.wrap ((c.cap + 1) * (6 + c.height)) = (c.cap + 1) * (6 + c.height) := IntWalk.i64_in _ (by omega)
  have w6' : IntKind.i64.wrap (1 + c.threads * c.slots + (c.cap + 1) * (6 + c.height)) = 1 + c.threads * c.slots + (c.cap + 1) * (6 + c.height) := IntWalk.i64_in _ (by omega)
  have E := Lib.hid e; clear e hfl hf hfi f4 f5 hb c1 c0 h0 h1
  obtain ⟨W0, hW0⟩ : ∃ W, w.alloc (.cells #[.int .i64 c.threads, .int .i64 c.slots, .int .i64 c.cap, .int .i64 c.height, .int .i64 c.keep, .int .i64 c.every, .int .i64 c.last] 23) = W := ⟨_, rfl⟩
  have hB0 : Blk W0 w.heap.size #[.int .i64 c.threads, .int .i64 c.slots, .int .i64 c.cap, .int .i64 c.height, .int .i64 c.keep, .int .i64 c.every, .int .i64 c.last] 23 := hW0 ▸ Blk.new _ _ _
  have F0 : Fr [] w W0 := hW0 ▸ (Fr.refl _ _).alloc _
  have hBc0 : ∀ w', Fr [] W0 w' → ∀ i, w'.cell? ⟨w.heap.size, i, none⟩ = _ := fun w' h i => (hB0.fr0 h).cell i
  have hBr0 := Fr.refl [] W0
  go_enter Try.func99, Try.ntmps99
  go_wp2_with (go_at_call 98; refine (refRight_any c hc _).mono ?_; rintro e w1 ⟨rfl, hf⟩; replace hf : Fr [] W0 w1 := Fr.trans (by (first | assumption | exact Fr.refl _ _ | exact (Fr.refl _ _).drew | exact Fr.drew (by assumption))) hf)
  go_ret
  exact ⟨ri E.out.symm, F0.trans (by assumption)⟩

set_option maxRecDepth 100000 in
theorem refResv_any (c : Cfg) (hc : c.R) (t s : Int) (w : World) : Calls Try.prog 121 #[.agg #[.int .i64 c.threads, .int .i64 c.slots, .int .i64 c.cap, .int .i64 c.height, .int .i64 c.keep, .int .i64 c.every, .int .i64 c.last], .int .i64 t, .int .i64 s] w fun e w' => e = .returned (.int .i64 (c.resv t s)) ∧ Fr [] w w' := by
  have s0 := hc.s0
  have s1 := hc.s1
  have t1' := hc.t1
  obtain ⟨W0, hW0⟩ : ∃ W, w.alloc (.cells #[.int .i64 c.threads, .int .i64 c.slots, .int .i64 c.cap, .int .i64 c.height, .int .i64 c.keep, .int .i64 c.every, .int .i64 c.last] 23) = W := ⟨_, rfl⟩
  have hB0 : Blk W0 w.heap.size #[.int .i64 c.threads, .int .i64 c.slots, .int .i64 c.cap, .int .i64 c.height, .int .i64 c.keep, .int .i64 c.every, .int .i64 c.last] 23 := hW0 ▸ Blk.new _ _ _
  have F0 : Fr [] w W0 := hW0 ▸ (Fr.refl _ _).alloc _
  have hBc0 : ∀ w', Fr [] W0 w' → ∀ i, w'.cell? ⟨w.heap.size, i, none⟩ = _ := fun w' h i => (hB0.fr0 h).cell i
  have hBr0 := Fr.refl [] W0
  by_cases h : 0 ≤ t ∧ t < c.threads ∧ 0 ≤ s ∧ s < c.slots
  · obtain ⟨h0, h1, h2, h3⟩ := h
    have e : c.resv t s = 1 + t * c.slots + s := by unfold Cfg.resv; rw [if_pos ⟨h0, h1, h2, h3⟩]
    have f4 := mul_bd (a := t) (b := c.slots) (A := 8) (B := 8) h0 (by omega) (by omega) s1
    have w2' : IntKind.i64.wrap (t * c.slots) = t * c.slots := IntWalk.i64_in _ (by omega)
    have w3' : IntKind.i64.wrap (1 + t * c.slots) = 1 + t * c.slots := IntWalk.i64_in _ (by omega)
    have w4' : IntKind.i64.wrap (1 + t * c.slots + s) = 1 + t * c.slots + s := IntWalk.i64_in _ (by omega)
    have a1 : ¬ t < 0 := by omega
    have a2 : ¬ c.threads ≤ t := by omega
    have a3 : ¬ s < 0 := by omega
    have a4 : ¬ c.slots ≤ s := by omega
    have E := Lib.hid e; clear e f4
    go_enter Try.func121, Try.ntmps121
    go_wp2_with (go_at_call 98; refine (refRight_any c hc _).mono ?_; rintro e w1 ⟨rfl, hf⟩; replace hf : Fr [] W0 w1 := Fr.trans (by (first | assumption | exact Fr.refl _ _ | exact (Fr.refl _ _).drew | exact Fr.drew (by assumption))) hf)
    go_ret
    exact ⟨ri E.out.symm, F0.trans (by assumption)⟩
  · have e : c.resv t s = -1 := by unfold Cfg.resv; rw [if_neg h]
    have E := Lib.hid e; clear e
    have hcases : t < 0 ∨ (¬ t < 0 ∧ c.threads ≤ t) ∨ (¬ t < 0 ∧ ¬ c.threads ≤ t ∧ s < 0) ∨ (¬ t < 0 ∧ ¬ c.threads ≤ t ∧ ¬ s < 0 ∧ c.slots ≤ s) := by omega
    clear h
    rcases hcases with a1 | ⟨a1, a2⟩ | ⟨a1, a2, a3⟩ | ⟨a1, a2, a3, a4⟩
    all_goals
      go_enter Try.func121, Try.ntmps121
      go_wp2_with (go_at_call 98; refine (refRight_any c hc _).mono ?_; rintro e w1 ⟨rfl, hf⟩; replace hf : Fr [] W0 w1 := Fr.trans (by (first | assumption | exact Fr.refl _ _ | exact (Fr.refl _ _).drew | exact Fr.drew (by assumption))) hf)
      go_ret
      exact ⟨ri E.out.symm, F0.trans (by assumption)⟩

set_option maxRecDepth 100000 in
theorem refCell_any (c : Cfg) (hc : c.R) (i f : Int) (w : World) : Calls Try.prog 118 #[.agg #[.int .i64 c.threads, .int .i64 c.slots, .int .i64 c.cap, .int .i64 c.height, .int .i64 c.keep, .int .i64 c.every, .int .i64 c.last], .int .i64 i, .int .i64 f] w fun e w' => e = .returned (.int .i64 (c.cell i f)) ∧ Fr [] w w' := by
  have h0 := hc.h0
  have h1 := hc.h1
  have c1 := hc.c1
  have hfl : c.fields = 6 + c.height := rfl
  have w4' : IntKind.i64.wrap (6 + c.height) = 6 + c.height := IntWalk.i64_in _ (by omega)
  obtain ⟨W0, hW0⟩ : ∃ W, w.alloc (.cells #[.int .i64 c.threads, .int .i64 c.slots, .int .i64 c.cap, .int .i64 c.height, .int .i64 c.keep, .int .i64 c.every, .int .i64 c.last] 23) = W := ⟨_, rfl⟩
  have hB0 : Blk W0 w.heap.size #[.int .i64 c.threads, .int .i64 c.slots, .int .i64 c.cap, .int .i64 c.height, .int .i64 c.keep, .int .i64 c.every, .int .i64 c.last] 23 := hW0 ▸ Blk.new _ _ _
  have F0 : Fr [] w W0 := hW0 ▸ (Fr.refl _ _).alloc _
  have hBc0 : ∀ w', Fr [] W0 w' → ∀ i, w'.cell? ⟨w.heap.size, i, none⟩ = _ := fun w' h i => (hB0.fr0 h).cell i
  have hBr0 := Fr.refl [] W0
  by_cases h : 0 ≤ i ∧ i ≤ c.cap ∧ 0 ≤ f ∧ f < c.fields
  · obtain ⟨g0, g1, g2, g3⟩ := h
    have e : c.cell i f = 1 + c.threads * c.slots + i * (6 + c.height) + f := by unfold Cfg.cell; rw [if_pos ⟨g0, g1, g2, g3⟩]; rfl
    have f4 := mul_bd (a := c.threads) (b := c.slots) (A := 8) (B := 8) (by have := hc.t0; omega) hc.t1 (by have := hc.s0; omega) hc.s1
    have f5 := mul_bd (a := i) (b := 6 + c.height) (A := 64) (B := 12) g0 (by omega) (by omega) (by omega)
    have w1' : IntKind.i64.wrap (c.threads * c.slots) = c.threads * c.slots := IntWalk.i64_in _ (by omega)
    have w2' : IntKind.i64.wrap (1 + c.threads * c.slots) = 1 + c.threads * c.slots := IntWalk.i64_in _ (by omega)
    have w5' : IntKind.i64.wrap (i * (6 + c.height)) = i * (6 + c.height) := IntWalk.i64_in _ (by omega)
    have w6' : IntKind.i64.wrap (1 + c.threads * c.slots + i * (6 + c.height)) = 1 + c.threads * c.slots + i * (6 + c.height) := IntWalk.i64_in _ (by omega)
    have w7' : IntKind.i64.wrap (1 + c.threads * c.slots + i * (6 + c.height) + f) = 1 + c.threads * c.slots + i * (6 + c.height) + f := IntWalk.i64_in _ (by omega)
    have a1 : ¬ i < 0 := by omega
    have a2 : ¬ c.cap < i := by omega
    have a3 : ¬ f < 0 := by omega
    have a4 : ¬ 6 + c.height ≤ f := by omega
    have E := Lib.hid e; clear e f4 f5 hfl
    go_enter Try.func118, Try.ntmps118
    go_wp2_with (go_at_call 98; refine (refRight_any c hc _).mono ?_; rintro e w1 ⟨rfl, hf⟩; replace hf : Fr [] W0 w1 := Fr.trans (by (first | assumption | exact Fr.refl _ _ | exact (Fr.refl _ _).drew | exact Fr.drew (by assumption))) hf)
    go_ret
    exact ⟨ri E.out.symm, F0.trans (by assumption)⟩
  · have e : c.cell i f = -1 := by unfold Cfg.cell; rw [if_neg h]
    have E := Lib.hid e; clear e
    have hcases : i < 0 ∨ (¬ i < 0 ∧ c.cap < i) ∨ (¬ i < 0 ∧ ¬ c.cap < i ∧ f < 0) ∨ (¬ i < 0 ∧ ¬ c.cap < i ∧ ¬ f < 0 ∧ 6 + c.height ≤ f) := by omega
    clear h hfl
    rcases hcases with a1 | ⟨a1, a2⟩ | ⟨a1, a2, a3⟩ | ⟨a1, a2, a3, a4⟩
    all_goals
      go_enter Try.func118, Try.ntmps118
      go_wp2_with (go_at_call 98; refine (refRight_any c hc _).mono ?_; rintro e w1 ⟨rfl, hf⟩; replace hf : Fr [] W0 w1 := Fr.trans (by (first | assumption | exact Fr.refl _ _ | exact (Fr.refl _ _).drew | exact Fr.drew (by assumption))) hf)
      go_ret
      exact ⟨ri E.out.symm, F0.trans (by assumption)⟩
end Go.Proofs.Ytaddjigmdeejlaa
