/- The sentence on a world of one slot (alive of layer 9) is true. -/
import Derived.Test.YtaddjigmdeejlaaBack
import Derived.Test.YtaddjigmdeejlaaMemc
namespace Go.Proofs.Ytaddjigmdeejlaa
open Go.RowKit Go.Ss

namespace AliveNine
def c0 : Cfg := ⟨1, 1, 1, 1, 1, 1, 9⟩
theorem hc0 : c0.R := by constructor <;> decide
def m0 : Mm := ⟨c0, ⟨newCells c0, 0, Ss.Acc.zero⟩⟩
def a0 : Cl := Cl.new 5
def s1 := a0.step m0
def s2 := s1.1.step s1.2
def b0 : Cl := Cl.new 1
def t1 := b0.step s2.2
def t2 := t1.1.step t1.2
def m5 : Mm := Mm.back t2.2 s2.1.got
end AliveNine
open AliveNine

set_option maxRecDepth 100000 in
set_option maxHeartbeats 1000000 in
theorem alive9 (w : World) : Calls Try.prog 24 #[] w fun e w' => e = .returned (.bool true) ∧ Fr [] w w' := by
  have k0 : a0.st.isDone = false := rfl
  have k1 : s1.1.st.isDone = false := by decide +kernel
  have k2 : s1.1.got = 0 := by decide +kernel
  have k3 : s1.1.next = 5 := by decide +kernel
  have k4 : s2.1.st.isDone = true := by decide +kernel
  have k5 : s2.1.got = 9223372036854775809 := by decide +kernel
  have k6 : s2.1.next = 1 := by decide +kernel
  have k7 : t2.1.st.isDone = true := by decide +kernel
  have k8 : t2.1.got = 0 := by decide +kernel
  have k9 : t1.2.b.count = 3 := by decide +kernel
  have k10 : m5.b.count = 4 := by decide +kernel
  have k11 : (m5.meta_ 1).2 = 4 := by decide +kernel
  have K5 := Lib.hid k5; clear k5
  go_enter Try.func24, Try.ntmps24
  go_upto_region 2 with (go_at_call 37; refine (memNew_any c0 hc0 _).mono ?_; rintro e W1 ⟨bm, bb, bc, rfl, f1, q1, q2, q3, hm1⟩)
  replace hm1 : MemAt W1 bm bb bc m0 := hm1
  have l1 := hm1.mem.lt
  have l2 := hm1.bank.bank.lt
  have l3 := hm1.bank.cells.lt
  have okm0 := hm1.ok
  go_upto_region 4 with (go_at_call 27; refine (mbank_any bm bb c0 _ hm1.mem).mono ?_; rintro e w9 ⟨rfl, rfl⟩)
  go_upto_region 5 with (go_at_call 23; refine (claimNew_any 5 _).mono ?_; rintro e W2 ⟨ba, rfl, f2, q4, ha2⟩)
  replace ha2 : ClAt W2 ba a0 := ha2
  have hm2 : MemAt W2 bm bb bc m0 := hm1.fr0 f2
  have l4 := Blk.lt ha2
  have n0 : ba ≠ bm := by omega
  have n1 : ba ≠ bb := by omega
  have n2 : ba ≠ bc := by omega
  have o0 : a0.Ok m0.c.cap := Cl.new_ok 5 1 (by omega)
  go_upto_region 7 with (go_at_call 36; refine (cdone_any ba a0 _ ha2).mono ?_; rintro e w9 ⟨rfl, rfl⟩)
  go_upto_region 8 with (go_at_call 30; refine (cstep_any ba bm bb bc a0 m0 _ ha2 hm2 n0 n1 n2 o0).mono ?_; rintro e W3 ⟨rfl, f3, hm3, ha3⟩)
  replace hm3 : MemAt W3 bm bb bc s1.2 := hm3
  replace ha3 : ClAt W3 ba s1.1 := ha3
  have o1 : s1.1.Ok s1.2.c.cap := Cl.step_ok okm0 o0
  go_upto_region 9 with (first | (go_at_call 36; refine (cdone_any ba s1.1 _ ha3).mono ?_; rintro e w9 ⟨rfl, rfl⟩) | (go_at_call 33; refine (cgot_any ba s1.1 _ ha3).mono ?_; rintro e w9 ⟨rfl, rfl⟩) | (go_at_call 102; refine (cnext_any ba s1.1 _ ha3).mono ?_; rintro e w9 ⟨rfl, rfl⟩))
  go_upto_region 10 with (go_at_call 30; refine (cstep_any ba bm bb bc s1.1 s1.2 _ ha3 hm3 n0 n1 n2 o1).mono ?_; rintro e W4 ⟨rfl, f4, hm4, ha4⟩)
  replace hm4 : MemAt W4 bm bb bc s2.2 := hm4
  replace ha4 : ClAt W4 ba s2.1 := ha4
  have z4 := (f3.trans f4).size
  go_upto_region 11 with (go_at_call 23; refine (claimNew_any 1 _).mono ?_; rintro e W5 ⟨bx, rfl, f5, q5, hb5⟩)
  replace hb5 : ClAt W5 bx b0 := hb5
  have l5 := Blk.lt hb5
  have hm5 : MemAt W5 bm bb bc s2.2 := hm4.fr0 f5
  have ha5 : ClAt W5 ba s2.1 := Blk.fr0 ha4 f5
  have p0 : bx ≠ bm := by omega
  have p1 : bx ≠ bb := by omega
  have p2 : bx ≠ bc := by omega
  have p3 : ba ≠ bx := by omega
  have ob : b0.Ok s2.2.c.cap := Cl.new_ok 1 1 (by omega)
  have okm4 := hm4.ok
  go_upto_region 12 with (go_at_call 30; refine (cstep_any bx bm bb bc b0 s2.2 _ hb5 hm5 p0 p1 p2 ob).mono ?_; rintro e W6 ⟨rfl, f6, hm6, hb6⟩)
  replace hm6 : MemAt W6 bm bb bc t1.2 := hm6
  replace hb6 : ClAt W6 bx t1.1 := hb6
  have ha6 : ClAt W6 ba s2.1 := Blk.fr ha5 f6 (by simp [n1, n2, p3])
  have ob1 : t1.1.Ok t1.2.c.cap := Cl.step_ok okm4 ob
  go_upto_region 13 with (first | (go_at_call 27; refine (mbank_any bm bb _ _ hm6.mem).mono ?_; rintro e w9 ⟨rfl, rfl⟩) | (go_at_call 63; refine (bcount_any bb bc t1.2.b _ hm6.bank).mono ?_; rintro e w9 ⟨rfl, rfl⟩))
  go_upto_region 14 with (go_at_call 30; refine (cstep_any bx bm bb bc t1.1 t1.2 _ hb6 hm6 p0 p1 p2 ob1).mono ?_; rintro e W7 ⟨rfl, f7, hm7, hb7⟩)
  replace hm7 : MemAt W7 bm bb bc t2.2 := hm7
  replace hb7 : ClAt W7 bx t2.1 := hb7
  have ha7 : ClAt W7 ba s2.1 := Blk.fr ha6 f7 (by simp [n1, n2, p3])
  have g0 : 0 ≤ s2.1.got := by rw [K5.out]; omega
  have g1 : s2.1.got < 18446744073709551616 := by rw [K5.out]; omega
  go_upto_region 15 with (first | (go_at_call 33; refine (cgot_any ba s2.1 _ ha7).mono ?_; rintro e w9 ⟨rfl, rfl⟩) | (go_at_call 103; refine (back_any bm bb bc t2.2 s2.1.got _ hm7 g0 g1).mono ?_; rintro e W8 ⟨rfl, f8, hm8⟩))
  replace hm8 : MemAt W8 bm bb bc m5 := hm8
  have ha8 : ClAt W8 ba s2.1 := Blk.fr ha7 f8 (by simp [n1, n2])
  have hb8 : ClAt W8 bx t2.1 := Blk.fr hb7 f8 (by simp [p1, p2])
  have kk : ((s2.1.got : Int) == 9223372036854775809) = true := by rw [K5.out]; decide
  clear g0 g1
  go_wp2_with (first | (go_at_call 36; (first | refine (cdone_any ba s2.1 _ ha8).mono ?_ | refine (cdone_any bx t2.1 _ hb8).mono ?_); rintro e w9 ⟨rfl, rfl⟩) | (go_at_call 33; (first | refine (cgot_any ba s2.1 _ ha8).mono ?_ | refine (cgot_any bx t2.1 _ hb8).mono ?_); rintro e w9 ⟨rfl, rfl⟩) | (go_at_call 102; refine (cnext_any ba s2.1 _ ha8).mono ?_; rintro e w9 ⟨rfl, rfl⟩) | (go_at_call 27; refine (mbank_any bm bb _ _ hm8.mem).mono ?_; rintro e w9 ⟨rfl, rfl⟩) | (go_at_call 63; refine (bcount_any bb bc m5.b _ hm8.bank).mono ?_; rintro e w9 ⟨rfl, rfl⟩) | (go_at_call 29; refine (meta2_any bm bb bc m5 1 _ hm8).mono ?_; rintro e W9 ⟨rfl, f9, hm9⟩))
  go_ret
  refine ⟨rfl, ?_⟩
  have z1 := f1.size
  have z2 := f2.size
  have F := f1.trans f2
  have G : Fr [ba, bx, bb, bc] W2 W9 := (((((((f3.mono (by simp)).trans (f4.mono (by simp))).trans f5.nil).trans (f6.mono (by simp))).trans (f7.mono (by simp))).trans (f8.mono (by simp))).trans (f9.mono (by simp)))
  exact Fr.hide F G (by intro x hx; simp at hx; omega)
end Go.Proofs.Ytaddjigmdeejlaa
