/- The sentence on a guard with two slots (alive of layer 10) is true. -/
import Derived.Test.YtaddjigmdeejlaaAid
namespace Go.Proofs.Ytaddjigmdeejlaa
open Go.RowKit Go.Ss

namespace AliveTen
def c0 : Cfg := ⟨2, 2, 1, 1, 1, 1, 9⟩
theorem hc0 : c0.R := by constructor <;> decide
def m0 : Mm := ⟨c0, ⟨newCells c0, 0, Ss.Acc.zero⟩⟩
def g0 : Gd := ⟨0, 0, 1⟩
def m1 : Mm := m0.clock.1
def p1 := g0.publish m1 1
def m2 : Mm := p1.2.1.clock.1
def p2 := p1.1.publish m2 2
def p3 := p2.1.publish p2.2.1 3
def m3 : Mm := (p3.2.1.reserved 1 0).1
def m4 : Mm := (m3.reserved 1 1).1
def p4 := p3.1.clear m4 1
def m5 : Mm := (p4.2.reserved 1 1).1
theorem g0_ok : g0.Ok := by constructor <;> decide
theorem p1_ok : p1.1.Ok := Gd.publish_ok g0_ok (by decide) _ (by decide) (by decide)
theorem p2_ok : p2.1.Ok := Gd.publish_ok p1_ok (by decide) _ (by decide) (by decide)
end AliveTen
open AliveTen

set_option maxRecDepth 100000 in
theorem alive10 (w : World) : Calls Try.prog 39 #[] w fun e w' => e = .returned (.bool true) ∧ Fr [] w w' := by
  have k1 : m0.clock.2 = 1 := by decide +kernel
  have k2 : p1.2.1.clock.2 = 1 := by decide +kernel
  have k3 : (p3.2.1.reserved 1 0).2 = 3 := by decide +kernel
  have k4 : (m3.reserved 1 1).2 = 2 := by decide +kernel
  have k5 : (p4.2.reserved 1 1).2 = 0 := by decide +kernel
  have k6 : (g0.publish m1 1).2.2 = true := by decide +kernel
  have k7 : (p1.1.publish m2 2).2.2 = true := by decide +kernel
  have k8 : (p2.1.publish p2.2.1 3).2.2 = false := by decide +kernel
  have k9 : g0.latest = 0 := rfl
  have k10 : p1.1.latest = 1 := by decide +kernel
  have k11 : p3.1.latest = 3 := by decide +kernel
  have k12 : p4.1.latest = 0 := by decide +kernel
  have k13 : p4.1.thread = 1 := by decide +kernel
  have K1 := Lib.hid k1
  go_enter Try.func39, Try.ntmps39
  go_upto_region 2 with (go_at_call 37; refine (memNew_any c0 hc0 _).mono ?_; rintro e W1 ⟨bm, bb, bc, rfl, f1, q1, q2, q3, hm1⟩)
  go_upto_region 3 with (go_at_call 38; refine (guardNew_any 1 _).mono ?_; rintro e W2 ⟨bg, rfl, f2, q4, hg2⟩)
  have hm2 : MemAt W2 bm bb bc m0 := hm1.fr0 f2
  replace hg2 : GdAt W2 bg g0 := hg2
  have l1 := hm1.mem.lt
  have l2 := hm1.bank.bank.lt
  have l3 := hm1.bank.cells.lt
  have n0 : bg ≠ bm := by omega
  have n1 : bg ≠ bb := by omega
  have n2 : bg ≠ bc := by omega
  go_upto_region 5 with (go_at_call 27; refine (mbank_any bm bb c0 _ hm2.mem).mono ?_; rintro e w9 ⟨rfl, rfl⟩)
  go_upto_region 6 with (go_at_call 111; refine (check_any bg bm bb bc g0 m0 _ hg2 hm2 n1 n2).mono ?_; rintro e W3 ⟨rfl, f3, hm3⟩)
  have hg3 : GdAt W3 bg g0 := Blk.fr hg2 f3 (by simp [n1, n2])
  go_upto_region 7 with (go_at_call 40; refine (publish_any bg bm bb bc g0 m1 1 _ hg3 hm3 n0 n1 n2 g0_ok (by omega) (by omega)).mono ?_; rintro e W4 ⟨rfl, f4, hm4, hg4⟩)
  go_upto_region 8 with (go_at_call 111; refine (check_any bg bm bb bc p1.1 p1.2.1 _ hg4 hm4 n1 n2).mono ?_; rintro e W5 ⟨rfl, f5, hm5⟩)
  have hg5 : GdAt W5 bg p1.1 := Blk.fr hg4 f5 (by simp [n1, n2])
  go_wp2_with fail
  (go_at_call 40; refine (publish_any bg bm bb bc p1.1 m2 2 _ hg5 hm5 n0 n1 n2 p1_ok (by omega) (by omega)).mono ?_; rintro e W6 ⟨rfl, f6, hm6, hg6⟩)
  go_wp2_with fail
  (go_at_call 40; refine (publish_any bg bm bb bc p2.1 p2.2.1 3 _ hg6 hm6 n0 n1 n2 p2_ok (by omega) (by omega)).mono ?_; rintro e W7 ⟨rfl, f7, hm7, hg7⟩)
  go_upto_region 10 with (go_at_call 42; refine (latest_any bg p3.1 _ hg7).mono ?_; rintro e w9 ⟨rfl, rfl⟩)
  go_wp2_with fail
  (go_at_call 41; refine (reserved_any bm bb bc p3.2.1 1 0 _ hm7).mono ?_; rintro e W8 ⟨rfl, f8, hm8⟩)
  go_wp2_with fail
  (go_at_call 41; refine (reserved_any bm bb bc m3 1 1 _ hm8).mono ?_; rintro e W9 ⟨rfl, f9, hm9⟩)
  have hg9 : GdAt W9 bg p3.1 := Blk.fr hg7 (f8.trans f9) (by simp [n1, n2])
  go_upto_region 12 with (go_at_call 112; refine (clear_any bg bm bb bc p3.1 m4 1 _ hg9 hm9 n0 n1 n2).mono ?_; rintro e W10 ⟨rfl, f10, hm10, hg10⟩)
  go_wp2_with (first | (go_at_call 42; refine (latest_any bg p4.1 _ hg10).mono ?_; rintro e w9 ⟨rfl, rfl⟩) | (go_at_call 41; refine (reserved_any bm bb bc p4.2 1 1 _ hm10).mono ?_; rintro e W11 ⟨rfl, f11, hm11⟩; have hg11 : GdAt W11 bg p4.1 := Blk.fr hg10 f11 (by simp [n1, n2])) | (go_at_call 113; refine (thread_any bg p4.1 _ hg11).mono ?_; rintro e w9 ⟨rfl, rfl⟩))
  go_ret
  refine ⟨rfl, ?_⟩
  have b3 : ∀ x, x ∈ [bb, bc] → x ∈ [bg, bb, bc] := by simp
  have hF : Fr [bg, bb, bc] W2 W11 := ((((((((f3.mono b3).trans f4).trans (f5.mono b3)).trans f6).trans f7).trans (f8.mono b3)).trans (f9.mono b3)).trans f10).trans (f11.mono b3)
  have z1 := f1.size
  exact Fr.hide (f1.trans f2) hF (by intro x hx; simp at hx; omega)
end Go.Proofs.Ytaddjigmdeejlaa
