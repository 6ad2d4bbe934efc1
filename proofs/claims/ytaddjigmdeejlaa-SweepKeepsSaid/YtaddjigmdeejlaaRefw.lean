/- Contracts of the document's words of nodes and slots. -/
import Derived.Test.YtaddjigmdeejlaaWords
import Derived.Test.YtaddjigmdeejlaaFn
namespace Go.Proofs.Ytaddjigmdeejlaa
open Go.RowKit Go.Ss

set_option maxRecDepth 100000 in
theorem rMeta_any (s g : Int) (w : World) (s0 : 0 ≤ s) (s1 : s ≤ 2) (g0 : 0 ≤ g) (g1 : g ≤ 1073741823) : Calls Try.prog 142 #[.int .i64 s, .int .i64 g] w fun e w' => e = .returned (.tuple #[.int .u64 (sMeta s g), .bool true]) ∧ w = w' := by
  have a1 : ¬ s < 0 := by omega
  have a2 : ¬ (2 : Int) < s := by omega
  have a3 : ¬ g < 0 := by omega
  have a4 : ¬ (1073741823 : Int) < g := by omega
  have w1 : IntKind.i64.wrap (4 * g) = 4 * g := IntWalk.i64_in _ (by omega)
  have w2 : IntKind.i64.wrap (4 * g + s) = 4 * g + s := IntWalk.i64_in _ (by omega)
  have w3 : IntKind.u64.wrap (4 * g + s) = 4 * g + s := by rw [IntKind.wrap_u64]; omega
  go_enter Try.func142, Try.ntmps142
  go_wp2_with fail
  go_ret2
  exact ⟨rfl, rfl⟩

set_option maxRecDepth 100000 in
theorem rTaken_any (g : Int) (w : World) (g0 : 0 ≤ g) (g1 : g ≤ 1073741823) : Calls Try.prog 87 #[.int .i64 g] w fun e w' => e = .returned (.int .u64 (sMeta 1 g)) ∧ w = w' := by
  go_enter Try.func87, Try.ntmps87
  go_wp2_with (go_at_call 142; refine (rMeta_any 1 g _ (by omega) (by omega) g0 g1).mono ?_; rintro e w1 ⟨rfl, rfl⟩)
  go_ret
  exact ⟨rfl, rfl⟩

set_option maxRecDepth 100000 in
theorem rAfter_any (g last : Int) (w : World) (g0 : 0 ≤ g) (g1 : g ≤ 1073741823) (l0 : 0 ≤ last) (l1 : last ≤ 1073741823) : Calls Try.prog 88 #[.int .i64 g, .int .i64 last] w fun e w' => e = .returned (.int .u64 (sAfter g last)) ∧ w = w' := by
  have hc : clamp last 0 1073741823 = last := by unfold clamp; omega
  have hm : max g 0 = g := by omega
  have a1 : ¬ g < 0 := by omega
  have a2 : ¬ last < 0 := by omega
  have a3 : ¬ (1073741823 : Int) < last := by omega
  by_cases h : last ≤ g
  · have e : sAfter g last = 4 * last + 2 := by unfold sAfter; rw [hc, hm]; exact if_pos h
    have E := Lib.hid e; clear e hc hm
    have w1 : IntKind.i64.wrap (4 * last) = 4 * last := IntWalk.i64_in _ (by omega)
    have w2 : IntKind.i64.wrap (4 * last + 2) = 4 * last + 2 := IntWalk.i64_in _ (by omega)
    have w3 : IntKind.u64.wrap (4 * last + 2) = 4 * last + 2 := by rw [IntKind.wrap_u64]; omega
    go_enter Try.func88, Try.ntmps88
    go_wp2_with fail
    go_ret
    exact ⟨ri E.out.symm, rfl⟩
  · have e : sAfter g last = 4 * g + 4 := by unfold sAfter; rw [hc, hm]; exact if_neg (by omega)
    have E := Lib.hid e; clear e hc hm
    have w1 : IntKind.i64.wrap (4 * g) = 4 * g := IntWalk.i64_in _ (by omega)
    have w2 : IntKind.i64.wrap (4 * g + 4) = 4 * g + 4 := IntWalk.i64_in _ (by omega)
    have w3 : IntKind.u64.wrap (4 * g + 4) = 4 * g + 4 := by rw [IntKind.wrap_u64]; omega
    go_enter Try.func88, Try.ntmps88
    go_wp2_with fail
    go_ret
    exact ⟨ri E.out.symm, rfl⟩

set_option maxRecDepth 100000 in
theorem rPack_any (i g : Int) (w : World) (i0 : 0 ≤ i) (i1 : i ≤ 4294967295) (g0 : 0 ≤ g) (g1 : g ≤ 1073741823) : Calls Try.prog 168 #[.int .i64 i, .int .i64 g, .bool false] w fun e w' => e = .returned (.tuple #[.int .u64 (packW i g), .bool true]) ∧ w = w' := by
  have a1 : ¬ i < 0 := by omega
  have a2 : ¬ (4294967295 : Int) < i := by omega
  have a3 : ¬ g < 0 := by omega
  have a4 : ¬ (1073741823 : Int) < g := by omega
  go_enter Try.func168, Try.ntmps168
  go_wp2_with fail
  go_ret2
  exact ⟨rfl, rfl⟩
set_option maxRecDepth 100000 in
theorem rOf_any (i g : Int) (w : World) (i0 : 0 ≤ i) (i1 : i ≤ 4294967295) (g0 : 0 ≤ g) (g1 : g ≤ 1073741823) : Calls Try.prog 133 #[.int .i64 i, .int .i64 g] w fun e w' => e = .returned (.int .u64 (packW i g)) ∧ w = w' := by
  go_enter Try.func133, Try.ntmps133
  go_wp2_with (go_at_call 168; refine (rPack_any i g _ i0 i1 g0 g1).mono ?_; rintro e w1 ⟨rfl, rfl⟩)
  go_ret
  exact ⟨rfl, rfl⟩
end Go.Proofs.Ytaddjigmdeejlaa
