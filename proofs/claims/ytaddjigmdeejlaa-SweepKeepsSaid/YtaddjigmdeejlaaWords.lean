/- Contracts of the functions on words of nodes and of slots: each returns what the plain definition says, and leaves what was there. -/
import Derived.Test.YtaddjigmdeejlaaModel
import Derived.Test.YtaddjigmdeejlaaProg
namespace Go.Proofs.Ytaddjigmdeejlaa
open Go.RowKit Go.Ss

theorem state_any (x : Int) (w : World) (h0 : 0 ≤ x) (h1 : x < 18446744073709551616) :
    Calls Try.prog 31 #[.int .u64 x] w fun e w' => e = .returned (.int .i64 (sState x)) ∧ w = w' := by
  have hb := b_and3 x h0 h1
  go_enter Try.func31, Try.ntmps31
  go_wp2
  go_ret
  exact ⟨rfl, rfl⟩

theorem valid_any (x : Int) (w : World) (h0 : 0 ≤ x) (h1 : x < 18446744073709551616) :
    Calls Try.prog 55 #[.int .u64 x] w fun e w' => e = .returned (.bool (valid x)) ∧ w = w' := by
  go_enter Try.func55, Try.ntmps55
  go_wp2
  go_ret
  exact ⟨rb (b_valid x h0 h1), rfl⟩

theorem marked_any (x : Int) (w : World) (h0 : 0 ≤ x) (h1 : x < 18446744073709551616) :
    Calls Try.prog 65 #[.int .u64 x] w fun e w' => e = .returned (.bool (marked x)) ∧ w = w' := by
  go_enter Try.func65, Try.ntmps65
  go_wp2
  go_ret
  exact ⟨rb (b_marked x h0 h1), rfl⟩

theorem plain_any (x : Int) (w : World) (h0 : 0 ≤ x) (h1 : x < 18446744073709551616) :
    Calls Try.prog 66 #[.int .u64 x] w fun e w' => e = .returned (.int .u64 (plain x)) ∧ w = w' := by
  go_enter Try.func66, Try.ntmps66
  go_wp2
  go_ret
  exact ⟨ri (b_plain x h0 h1), rfl⟩

theorem sgen_any (x : Int) (w : World) (h0 : 0 ≤ x) (h1 : x < 18446744073709551616) :
    Calls Try.prog 34 #[.int .u64 x] w fun e w' => e = .returned (.int .i64 (sGen x)) ∧ w = w' := by
  by_cases hlt : x / 4 ≤ 1073741823
  · go_enter Try.func34, Try.ntmps34
    go_wp2
    go_ret
    exact ⟨ri (by unfold sGen; rw [if_pos hlt]), rfl⟩
  · go_enter Try.func34, Try.ntmps34
    go_wp2
    go_ret
    exact ⟨ri (by unfold sGen; rw [if_neg (by omega)]), rfl⟩

theorem bits1_idx (x : Int) (p q : Nat) (w : World) (h0 : 0 ≤ x) (h1 : x < 18446744073709551616) (hp : Blk w p #[.int .i64 0] 3) (hq : Blk w q #[.int .i64 32] 3) :
    Calls Try.prog 155 #[.int .u64 x, .pointer (some ⟨p, 0, none⟩), .pointer (some ⟨q,0,none⟩)] w fun e w' => e = .returned (.int .i64 (hidx x)) ∧ Fr [] w w' := by
  have hpc := hp.cell
  have hqc := hq.cell
  have hb := b_mask32 x h0 h1
  go_enter Try.func155, Try.ntmps155
  go_wp2
  go_quiet (fail)
  go_wp2
  go_ret
  exact ⟨ri (by rfl), (Fr.refl _ _).drewN _⟩

theorem bits1_gen (x : Int) (p q : Nat) (w : World) (h0 : 0 ≤ x) (h1 : x < 18446744073709551616) (hp : Blk w p #[.int .i64 32] 3) (hq : Blk w q #[.int .i64 30] 3) :
    Calls Try.prog 155 #[.int .u64 x, .pointer (some ⟨p, 0, none⟩), .pointer (some ⟨q,0,none⟩)] w fun e w' => e = .returned (.int .i64 (hgen x)) ∧ Fr [] w w' := by
  have hpc := hp.cell
  have hqc := hq.cell
  have hb := b_mask30 (x / 4294967296) (by omega) (by omega)
  go_enter Try.func155, Try.ntmps155
  go_wp2
  go_quiet (fail)
  go_wp2
  go_ret
  exact ⟨ri (by rfl), (Fr.refl _ _).drewN _⟩

theorem index_any (x : Int) (w : World) (h0 : 0 ≤ x) (h1 : x < 18446744073709551616) :
    Calls Try.prog 32 #[.int .u64 x] w fun e w' => e = .returned (.int .i64 (hidx x)) ∧ Fr [] w w' := by
  go_enter Try.func32, Try.ntmps32
  go_wp2_with (first | (go_at_call 155; refine (bits1_idx x _ _ _ h0 h1 ?_ ?_).mono ?_; (exact (Blk.new' _ _ _ _ (by simp)).alloc _); (exact Blk.new' _ _ _ _ (by simp)); rintro e w' ⟨rfl, hf⟩) | go_in)

  go_ret
  exact ⟨ri rfl, (((Fr.refl _ _).alloc _).alloc _).trans hf⟩

theorem gen_any (x : Int) (w : World) (h0 : 0 ≤ x) (h1 : x < 18446744073709551616) :
    Calls Try.prog 35 #[.int .u64 x] w fun e w' => e = .returned (.int .i64 (hgen x)) ∧ Fr [] w w' := by
  go_enter Try.func35, Try.ntmps35
  go_wp2_with (first | (go_at_call 155; refine (bits1_gen x _ _ _ h0 h1 ?_ ?_).mono ?_; (exact (Blk.new' _ _ _ _ (by simp)).alloc _); (exact Blk.new' _ _ _ _ (by simp)); rintro e w' ⟨rfl, hf⟩) | go_in)
  go_ret
  exact ⟨ri rfl, (((Fr.refl _ _).alloc _).alloc _).trans hf⟩

theorem run_index216 (x0 x1 x2 : Value) (w : World) : (Instr.index 216 (.agg #[x0, x1, x2]) (.int .i64 0)).run Try.prog w = .ok x0 w := by kernel_rfl
theorem run_index216_1 (x0 x1 x2 : Value) (w : World) : (Instr.index 216 (.agg #[x0, x1, x2]) (.int .i64 1)).run Try.prog w = .ok x1 w := by kernel_rfl
theorem run_index216_2 (x0 x1 x2 : Value) (w : World) : (Instr.index 216 (.agg #[x0, x1, x2]) (.int .i64 2)).run Try.prog w = .ok x2 w := by kernel_rfl
attribute [go_sem] run_index216 run_index216_1 run_index216_2

theorem run_eq111 (a b : Int) (w : World) : (Op.equalIn 10000 111 (.agg #[.int .i64 a, .int .i64 b]) (.agg #[.int .i64 a, .int .i64 b])).run Try.prog w = .ok true w := by
  have hu := Try.underlying111
  have h3 := Try.underlying3
  have p0 : ∀ (x y : Int) (w : World), (part 3 #[Value.int .i64 x, .int .i64 y] 0).run Try.prog w = .ok (.int .i64 x) w := fun _ _ _ => by kernel_rfl
  have p1 : ∀ (x y : Int) (w : World), (part 3 #[Value.int .i64 x, .int .i64 y] 1).run Try.prog w = .ok (.int .i64 y) w := fun _ _ _ => by kernel_rfl
  have hs : ∀ w, (sizeOf 3).run Try.prog w = .ok 1 w := fun _ => by kernel_rfl
  rw [Op.equalIn]
  have hr : List.range' 0 2 = [0, 1] := rfl
  simp [run_underlying hu, hs, hr, p0, p1, run_equalIn_int _ 9998 3 .i64 .i64 _ _ h3]
attribute [go_sem] run_eq111

theorem mark_any (x : Int) (w : World) (h0 : 0 ≤ x) (h1 : x < 18446744073709551616) :
    Calls Try.prog 76 #[.int .u64 x] w fun e w' => e = .returned (.int .u64 (hmark x)) ∧ w = w' := by
  go_enter Try.func76, Try.ntmps76
  go_wp2
  go_ret
  exact ⟨ri (b_mark x h0 h1), rfl⟩

theorem within_any (n m : Int) (w : World) (h0 : 0 ≤ n) (h1 : n ≤ m) :
    Calls Try.prog 161 #[.int .i64 n, .int .i64 m] w fun e w' => e = .returned (.int .i64 n) ∧ w = w' := by
  go_enter Try.func161, Try.ntmps161
  go_wp2
  all_goals (go_ret; exact ⟨ri (by omega), rfl⟩)

set_option maxRecDepth 100000 in
theorem pack_any (i g : Int) (w : World) (i0 : 0 ≤ i) (i1 : i ≤ 4294967295) (g0 : 0 ≤ g) (g1 : g ≤ 1073741823) :
    Calls Try.prog 122 #[.int .i64 i, .int .i64 g, .bool false] w fun e w' => e = .returned (.tuple #[.int .u64 (packW i g), .bool true]) ∧ Fr [] w w' := by
  have e1 : bits .or .u64 0 9223372036854775808 = 9223372036854775808 := by decide
  have e2 : bits .or .u64 9223372036854775808 (g * 4294967296) = 9223372036854775808 + g * 4294967296 := b_or_join _ _ 62 (by omega) (by omega) (by omega) (by omega) (by simp only [Nat.reducePow]; omega) (by simp only [Nat.reducePow]; omega)
  have e3 : bits .or .u64 (9223372036854775808 + g * 4294967296) i = 9223372036854775808 + g * 4294967296 + i := b_or_join _ _ 32 (by omega) (by omega) (by omega) (by omega) (by simp only [Nat.reducePow]; omega) (by simp only [Nat.reducePow]; omega)
  go_enter Try.func122, Try.ntmps122
  go_wp2_with (first | (go_at_call 161; refine (within_any _ _ _ (by assumption) (by assumption)).mono ?_; rintro e w' ⟨rfl, rfl⟩))
  refine wp_loop_rounds 4 ?_
  rw [rounds_succ]
  go_wp2
  rw [rounds_succ]
  go_wp2
  rw [rounds_succ]
  go_wp2
  rw [rounds_succ]
  go_wp2
  go_ret2
  refine ⟨?_, (Fr.refl _ _).alloc _⟩
  have e : packW i g = 9223372036854775808 + g * 4294967296 + i := by unfold packW; omega
  rw [e]; rfl

theorem head_any (w : World) :
    Calls Try.prog 52 #[] w fun e w' => e = .returned (.int .u64 9223372036854775808) ∧ Fr [] w w' := by
  go_enter Try.func52, Try.ntmps52
  go_wp2_with (go_at_call 122; refine (pack_any 0 0 _ (by omega) (by omega) (by omega) (by omega)).mono ?_; rintro e w' ⟨rfl, hf⟩)
  go_ret
  exact ⟨rfl, hf⟩

/-! ### slots -/
theorem packed_any (st gen : Int) (w : World) (s0 : 0 ≤ st) (s1 : st ≤ 3) (g0 : 0 ≤ gen) (g1 : gen ≤ 4294967295) :
    Calls Try.prog 157 #[.agg #[.int .i64 st, .int .i64 gen]] w fun e w' => e = .returned (.int .u64 (sMeta st gen)) ∧ Fr [] w w' := by
  have e1 : bits .or .u64 (gen * 4) st = gen * 4 + st := b_or_join _ _ 2 (by omega) (by omega) (by omega) (by omega) (by simp only [Nat.reducePow]; omega) (by simp only [Nat.reducePow]; omega)
  go_enter Try.func157, Try.ntmps157
  go_wp2
  go_ret
  refine ⟨ri ?_, (Fr.refl _ _).alloc _⟩
  unfold sMeta; omega

theorem word_right (st gen : Int) (w : World) (s0 : 0 ≤ st) (s1 : st ≤ 2) (g0 : 0 ≤ gen) (g1 : gen ≤ 1073741823) :
    Calls Try.prog 156 #[.agg #[.int .i64 st, .int .i64 gen]] w fun e w' => e = .returned (.bool true) ∧ Fr [] w w' := by
  go_enter Try.func156, Try.ntmps156
  go_wp2
  all_goals (go_ret; exact ⟨rfl, ((Fr.refl _ _).alloc _).alloc _⟩)

theorem meta_any (st gen : Int) (w : World) (s0 : 0 ≤ st) (s1 : st ≤ 2) (g0 : 0 ≤ gen) (g1 : gen ≤ 1073741823) :
    Calls Try.prog 110 #[.int .i64 st, .int .i64 gen] w fun e w' => e = .returned (.tuple #[.int .u64 (sMeta st gen), .bool true]) ∧ Fr [] w w' := by
  have hB : ∀ w', Fr [] (w.alloc (.cells #[.int .i64 st, .int .i64 gen] 211)) w' → ∀ i, w'.cell? ⟨w.heap.size, i, none⟩ = _ := fun w' h i => ((Blk.new w #[.int .i64 st, .int .i64 gen] 211).fr0 h).cell i
  go_enter Try.func110, Try.ntmps110
  go_wp2_with (first | (go_at_call 156; refine (word_right _ _ _ s0 s1 g0 g1).mono ?_; rintro e w1 ⟨rfl, hf1⟩) | (go_at_call 157; refine (packed_any _ _ _ s0 (by omega) g0 (by omega)).mono ?_; rintro e w2 ⟨rfl, hf2⟩))
  go_ret2
  exact ⟨rfl, (((Fr.refl _ _).alloc _).trans hf1).trans hf2⟩

theorem after_any (gen last : Int) (w : World) (g0 : 0 ≤ gen) (g1 : gen ≤ 1073741823) (l0 : 0 ≤ last) (l1 : last ≤ 1073741823) :
    Calls Try.prog 151 #[.int .i64 gen, .int .i64 last] w fun e w' => e = .returned (.int .u64 (sAfter gen last)) ∧ Fr [] w w' := by
  have hc : clamp last 0 1073741823 = last := by unfold clamp; omega
  have hm : max gen 0 = gen := by omega
  have e1 : last ≤ gen → sAfter gen last = sMeta 2 last := fun hlt => by
    unfold sAfter; simp only [hc, hm]; exact if_pos hlt
  have e2 : ¬ last ≤ gen → sAfter gen last = sMeta 0 (gen + 1) := fun hlt => by
    unfold sAfter; simp only [hc, hm]; refine (if_neg hlt).trans ?_; unfold sMeta; omega
  clear hc hm
  rcases Int.lt_or_eq_of_le l0 with hl | rfl
  · by_cases hlt : last ≤ gen
    · replace e1 := e1 hlt
      have E1 := Lib.hid e1; clear e1 e2
      go_enter Try.func151, Try.ntmps151
      go_wp2_with (first | (go_at_call 157; refine (packed_any _ _ _ (by omega) (by omega) l0 (by omega)).mono ?_; rintro e w2 ⟨rfl, hf2⟩))
      go_ret; exact ⟨ri E1.out.symm, by assumption⟩
    · replace e2 := e2 hlt
      have E2 := Lib.hid e2; clear e1 e2
      go_enter Try.func151, Try.ntmps151
      go_wp2_with (first | (go_at_call 157; refine (packed_any _ _ _ (by omega) (by omega) (by omega) (by omega)).mono ?_; rintro e w2 ⟨rfl, hf2⟩))
      go_ret; exact ⟨ri E2.out.symm, by assumption⟩
  · replace e1 := e1 g0
    have E1 := Lib.hid e1; clear e1 e2
    go_enter Try.func151, Try.ntmps151
    go_wp2_with (first | (go_at_call 157; refine (packed_any _ _ _ (by omega) (by omega) l0 (by omega)).mono ?_; rintro e w2 ⟨rfl, hf2⟩))
    go_ret; exact ⟨ri E1.out.symm, by assumption⟩
end Go.Proofs.Ytaddjigmdeejlaa
