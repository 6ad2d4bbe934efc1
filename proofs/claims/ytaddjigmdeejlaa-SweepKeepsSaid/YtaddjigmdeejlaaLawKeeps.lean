/- SweepKeeps, the walk. -/
import Derived.Test.YtaddjigmdeejlaaSweepk
import Derived.Test.YtaddjigmdeejlaaLawNoneb
namespace Go.Proofs.Ytaddjigmdeejlaa
open Go.RowKit Go.Ss

theorem run_neq_entry (a0 a1 a2 : Int) (w : World) : (binOp .neq 106 (.agg #[.int .u64 a0, .int .u64 a1, .int .u64 a2]) (.agg #[.int .u64 a0, .int .u64 a1, .int .u64 a2])).run Try.prog w = .ok (.bool false) w := by
  go_simp

set_option maxRecDepth 100000 in
theorem sweepKeeps_out (c : Cfg) (v : Value) (a : Option Addr) (n cap : Nat) (hv : v = .slice a n cap) (v2 : Value) (w : World) (h : ¬ c.R ∨ (c.R ∧ c.cap < n)) :
    Calls Try.prog 18 #[.agg #[.int .i64 c.threads, .int .i64 c.slots, .int .i64 c.cap, .int .i64 c.height, .int .i64 c.keep, .int .i64 c.every, .int .i64 c.last], v, v2] w fun e w' => e = .returned (.bool true) ∧ Fr [] w w' := by
  subst hv
  have H := Lib.hid h; clear h
  obtain ⟨W0, hW0⟩ : ∃ W, w.alloc (.cells #[.int .i64 c.threads, .int .i64 c.slots, .int .i64 c.cap, .int .i64 c.height, .int .i64 c.keep, .int .i64 c.every, .int .i64 c.last] 23) = W := ⟨_, rfl⟩
  have hB0 : Blk W0 w.heap.size #[.int .i64 c.threads, .int .i64 c.slots, .int .i64 c.cap, .int .i64 c.height, .int .i64 c.keep, .int .i64 c.every, .int .i64 c.last] 23 := hW0 ▸ Blk.new _ _ _
  have F0 : Fr [] w W0 := hW0 ▸ (Fr.refl _ _).alloc _
  have hBc0 : ∀ w', Fr [] W0 w' → ∀ i, w'.cell? ⟨w.heap.size, i, none⟩ = _ := fun w' h i => (hB0.fr0 h).cell i
  have hBr0 := Fr.refl [] W0
  go_enter Try.func18, Try.ntmps18
  go_wp2_with (first | (go_at_call 78; refine (slots_bad c a n cap _ H.out).mono ?_; rintro e W1 ⟨rfl, f1⟩) | (go_at_call 79; refine (sweepNew_any (P := fun _ => True) _ [] _ (RowE.nil _ _) (by decide)).mono ?_; rintro e W2 ⟨bs, rfl, f2, qs, hs2⟩) | (go_at_call 38; refine (guardNew_any 0 _).mono ?_; rintro e W3 ⟨bg, rfl, f3, qg, hg3⟩) | (go_at_call 80; refine (alive15 _).mono ?_; rintro e W4 ⟨rfl, f4⟩))
  go_ret
  exact ⟨rfl, F0.trans (f1.trans (f2.trans (f3.trans f4)))⟩

set_option maxRecDepth 100000 in
set_option maxHeartbeats 2000000 in
theorem sweepKeeps_in (c : Cfg) (hc : c.R) (v : Value) (l : List En) (w : World) (hv : SlE w v l) (hl : (l.length : Int) ≤ c.cap) (he : Es l) (v2 : Value) (le : List Int) (hv2 : SlI .u64 w v2 le) (hle : Ws le) :
    Calls Try.prog 18 #[.agg #[.int .i64 c.threads, .int .i64 c.slots, .int .i64 c.cap, .int .i64 c.height, .int .i64 c.keep, .int .i64 c.every, .int .i64 c.last], v, v2] w fun e w' => e = .returned (.bool true) ∧ Fr [] w w' := by
  obtain ⟨a2, cap2, hf2, _⟩ := id hv2
  subst hf2
  have HV2 := Lib.hid hv2; clear hv2
  obtain ⟨a, cap, rfl⟩ := SlE.form hv
  obtain ⟨W0, hW0⟩ : ∃ W, w.alloc (.cells #[.int .i64 c.threads, .int .i64 c.slots, .int .i64 c.cap, .int .i64 c.height, .int .i64 c.keep, .int .i64 c.every, .int .i64 c.last] 23) = W := ⟨_, rfl⟩
  have hB0 : Blk W0 w.heap.size #[.int .i64 c.threads, .int .i64 c.slots, .int .i64 c.cap, .int .i64 c.height, .int .i64 c.keep, .int .i64 c.every, .int .i64 c.last] 23 := hW0 ▸ Blk.new _ _ _
  have F0 : Fr [] w W0 := hW0 ▸ (Fr.refl _ _).alloc _
  have hBc0 : ∀ w', Fr [] W0 w' → ∀ i, w'.cell? ⟨w.heap.size, i, none⟩ = _ := fun w' h i => (hB0.fr0 h).cell i
  have hBr0 := Fr.refl [] W0
  have hv0 := SlE.fr0 hv F0
  have hc64 := hc.c1
  have hLen := mineL_length l l.length
  have HLEN := Lib.hid hLen; clear hLen
  have HV := Lib.hid hv; clear hv
  have z0 := F0.size
  have l0 := hB0.lt
  clear hBc0 hBr0
  have hb0 := hB0.cell
  go_enter Try.func18, Try.ntmps18
  go_upto_region 2 with (go_at_call 78; refine (slots_ok c hc _ l _ hv0 hl he).mono ?_; rintro e W1 ⟨bm, bb, bc, v1, rfl, f1, q1, q2, q3, hm1, hr1⟩; obtain ⟨a1, c1, hv1⟩ := RowE.form hr1; rw [HLEN.out] at hv1; subst hv1)
  have k1 := hm1.mem.lt
  have k2 := hm1.bank.bank.lt
  have k3 := hm1.bank.cells.lt
  go_upto_region 3 with (first | (go_at_call 79; refine (sweepNew_any _ (mineL l l.length) _ hr1 (by rw [HLEN.out]; omega)).mono ?_; rintro e W2 ⟨bs, rfl, f2, qs, hs2⟩) | (go_at_call 38; refine (guardNew_any 0 _).mono ?_; rintro e W3 ⟨bg, rfl, f3, qg, hg3⟩))
  have lg := Blk.lt hg3
  obtain ⟨hs3, ap3⟩ := sw_setup hs2 f3 qs qg lg k1 k2 k3
  have hm3 := (hm1.fr0 f2).fr0 f3
  have hr3 := RowE.fr0 (RowE.old hr1) (f2.trans f3)
  have hB3 := ((hB0.fr0 f1).fr0 f2).fr0 f3
  have z1 := f1.size
  have z2 := f2.size
  have z3 := f3.size
  have hb3 := hB3.cell
  have FW : Fr [] w W3 := F0.trans (f1.trans (f2.trans f3))
  clear hb0 hs2 hr1 hv0 hm1
  have hsl := hc.s0
  have hsl8 := hc.s1
  have hts := slots_bd hc
  obtain ⟨n, hn⟩ : ∃ n : Nat, c.slots = n := ⟨c.slots.toNat, by omega⟩
  obtain ⟨T, hT⟩ : ∃ T : Nat, c.threads * c.slots = T := ⟨(c.threads * c.slots).toNat, by omega⟩
  clear hn hT
  clear n T
  by_cases h70 : (70 : Int) < (le.length : Int)
  · go_wp2_with (go_at_call 80; refine (alive15 _).mono ?_; rintro e W5 ⟨rfl, f5⟩)
    go_ret
    exact ⟨rfl, FW.trans f5⟩
  have hmul : IntKind.i64.wrap (c.threads * c.slots) = c.threads * c.slots := IntWalk.i64_in _ (by omega)
  go_upto_region 6 with fail
  have lbs := hs3.lt
  have hsg := ap3.sg
  clear hb3
  go_loopw [55] (fun i wr => ∃ (k : Nat) (M : Mm), k ≤ le.length ∧ i = .int .i64 k ∧ KInv c l M ∧ MemAt wr bm bb bc M ∧ Fr [bb, bc] W3 wr) (fun i _ => le.length - (intOf i).toNat)
  case atStart => exact ⟨0, _, Nat.zero_le _, rfl, KInv.start hc hl, hm3, Fr.refl _ _⟩
  case round =>
    obtain ⟨k, M, hk', rfl, hI, hmr, hF⟩ := hrel
    have hBr := hB3.fr hF (by simp; omega)
    by_cases hlt : k < le.length
    · obtain ⟨x, rfl, hera⟩ := SlI.word HV2.out (FW.nil.trans hF) (by intro b hb; simp at hb; omega) hlt
      obtain ⟨hw0, hw1⟩ := Ws.at_ hle hlt
      generalize le.getD k 0 = era at *
      have hlt' : (k : Int) < (le.length : Int) := by omega
      have hsum := IntWalk.i64_in ((k : Int) + 1) (by omega)
      by_cases hts2 : (k : Int) < c.threads * c.slots
      · have hbc := hBr.cell
        go_upto_region 9 with fail
        have hd0 : 0 ≤ (k : Int) / c.slots := Int.ediv_nonneg (by omega) (by omega)
        have hd1 : 0 ≤ (k : Int) % c.slots := Int.emod_nonneg _ (by omega)
        have hdle := Int.ediv_le_self (c.slots) (show 0 ≤ (k : Int) by omega)
        have hdn : ¬ c.slots = 0 := by omega
        have hrl := Int.emod_lt_of_pos (k : Int) (show 0 < c.slots by omega)
        have hw1' : IntKind.i64.wrap ((k : Int) / c.slots) = (k : Int) / c.slots := IntWalk.i64_in _ (by omega)
        have hw2' : IntKind.i64.wrap ((k : Int) % c.slots) = (k : Int) % c.slots := IntWalk.i64_in _ (by omega)
        have htm : (k : Int).tmod c.slots = (k : Int) % c.slots := Int.tmod_eq_emod_of_nonneg (by omega)
        have hI' := hI.reserve hl ((k : Int) / c.slots) ((k : Int) % c.slots) era hw0 hw1
        have hbq : ∀ w', Fr [bb, bc] wr w' → ∀ i, w'.cell? ⟨w.heap.size, i, none⟩ = _ := fun w' h i => (hBr.fr h (by simp; omega)).cell i
        have hrf := Fr.refl [bb, bc] wr
        go_region_held3 (fun w' => Fr [bb, bc] wr w') (repeat (first | with_reducible assumption | with_reducible exact Fr.refl _ _ | with_reducible refine Fr.drew ?_ | (with_reducible refine Fr.setM ?_ ?hm _; case hm => (simp; done)) | (with_reducible refine Fr.setN ?_ ?hn _; case hn => omega) | with_reducible refine Fr.alloc ?_ _ | with_reducible exact Fr.nil (by with_reducible assumption))) (first | (go_at_call 84; (with_reducible refine (reserve_any bm bb bc M ((k : Int) / c.slots) ((k : Int) % c.slots) era _ (hmr.fr0 ((Fr.refl _ _).drew)) hw0 hw1).mono ?_); rintro e W4 ⟨rfl, f4, hm4⟩; replace f4 : Fr [bb, bc] wr W4 := Fr.trans (Fr.refl _ _).drew f4))
        go_wp2_with fail
        go_roundw
        case rel => exact ⟨k + 1, _, hlt, by simp, hI', hm4, hF.trans f4⟩
        case measure => simp [intOf]; omega
      · have hbc := hBr.cell
        go_wp2_with fail
        go_roundw
        case rel => exact ⟨k + 1, _, hlt, by simp, hI, hmr, hF⟩
        case measure => simp [intOf]; omega
    · have hkl : k = le.length := by omega
      subst hkl
      have hlt' : ¬ ((le.length : Nat) : Int) < ((le.length : Nat) : Int) := by omega
      have hs4 := hs3.frq (hF.q (Q := (· ∈ [bb, bc])) (fun _ h => h)) (by intro b hb _ hm; unfold SwP at hb; simp at hm; omega) (by simp; omega)
      have ap4 := ap3.next hF.size
      have hg4 := Blk.fr hg3 hF (by simp; omega)
      obtain ⟨N, K, Sd, Mf, hend, hnd, hNb, hKR⟩ := keeps_all hc hl hI
      have okx := x15_ok hc he hl hI.m hI.mc
      have HE := Lib.hid hend; clear hend
      have HND := Lib.hid hnd; clear hnd
      have HKR := Lib.hid hKR; clear hKR
      clear hI
      go_upto_region 12 with (go_at_call 81; refine (ends_any _ bs bg bm bb bc (x15 c l M) c N 300 _ ap4 ⟨hs4, hmr, hg4⟩ okx (by rw [HE.out]; rfl) HND.out hNb (by omega)).mono ?_; rintro e W9 ⟨rfl, f9, hx9⟩)
      replace hx9 : SstAt (SwP W1.heap.size bs bg) bs bg bm bb bc ⟨⟨.done, K, Sd⟩, Mf, ⟨0, 0, 0⟩⟩ W9 := by
        rw [HE.out] at hx9; exact hx9
      have hKle : K.length ≤ l.length := by rw [HKR.out.k]; exact Nat.le_trans (List.length_filter_le _ _) (by rw [HLEN.out]; exact Nat.le_refl _)
      have hSle := HKR.out.sl
      have nxw : ¬ SwQ (SwP W1.heap.size bs bg) bs bg bb bc w.heap.size := by
        intro h; rcases h with h | h | h | h | h
        · have := h.1; omega
        all_goals omega
      have fQ9 : FrQ (SwQ (SwP W1.heap.size bs bg) bs bg bb bc) W3 W9 := (hF.q (by intro x hx; simp at hx; rcases hx with rfl | rfl; exact .inr (.inr (.inr (.inl rfl))); exact .inr (.inr (.inr (.inr rfl))))).trans f9
      have hB9 := hB3.frq fQ9 nxw
      have hr9 := hr3.frq fQ9 (by intro b hb _ hq; rcases hq with h | h | h | h | h; (have := h.1; omega); all_goals omega)
      clear hmr hs4 hg4 hBr
      go_upto_region 13 with (first | (go_at_call 83; refine (skept_any bs _ _ hx9.s (by show K.length ≤ 100; omega)).mono ?_; rintro e W6 ⟨v6, rfl, f6, hv6⟩; obtain ⟨a6, c6, hv7⟩ := RowE.form hv6; replace hv7 : v6 = .slice a6 K.length c6 := hv7; subst hv7; have hs6 := hx9.s.frq (f6.q0 (Q := fun _ => False)) (by simp) (by simp)) | (go_at_call 85; refine (sseen_any bs _ _ hs6 (by show Sd.length ≤ 100; omega)).mono ?_; rintro e W7 ⟨v7, rfl, f7, hv8⟩))
      replace hv6 : RowE (fun b => W9.heap.size ≤ b ∧ b < W6.heap.size) W7 (.slice a6 K.length c6) K := RowE.fr0 (RowE.old hv6) f7
      replace hv8 : OwnW (fun b => W6.heap.size ≤ b) W7 v7 Sd := hv8
      have f97 := f6.trans f7
      have hm7 := hx9.m.fr0 f97
      have hB7 := hB9.fr0 f97
      have hr7 := RowE.fr0 hr9 f97
      have hs7 := hx9.s.frq (f97.q0 (Q := fun _ => False)) (by simp) (by simp)
      replace hs7 : SwAt (SwP W1.heap.size bs bg) W7 bs ⟨.done, K, Sd⟩ := hs7
      have HR6 := Lib.hid hv6; clear hv6
      have HR7 := Lib.hid hr7; clear hr7
      have HS7 := Lib.hid hv8.slp; clear hv8
      have z97 := f97.size
      have z9 := fQ9.size
      have z67 := f7.size
      have z96 := f6.size
      have lz := hB0.lt
      clear hr3 hr9 hB9 hs6 hx9
      go_upto_region 15 with fail
      obtain ⟨few, hfew⟩ : ∃ few, few = decide ((l.length : Int) < c.keep) := ⟨_, rfl⟩
      rw [← hfew] at HKR
      go_loopw [16, 89] (fun av i wr => ∃ (k A : Nat) (Mx : Mm), k ≤ l.length ∧ A = cnt l (kp few Sd) k ∧ av = .int .i64 A ∧ i = .int .i64 k ∧ MemAt wr bm bb bc Mx ∧ Mx.c = c ∧ Mx.b.cells = Mf.b.cells ∧ Fr [bb, bc] W7 wr) (fun _ i _ => l.length - (intOf i).toNat)
      case atStart => exact ⟨0, 0, Mf, Nat.zero_le _, by simp [cnt], rfl, rfl, hm7, HKR.out.mc, rfl, Fr.refl _ _⟩
      case round =>
        obtain ⟨k, A, Mx, hkl, hA, rfl, rfl, hmx, hxc, hxe, hG⟩ := hrel
        have zG := hG.size
        by_cases hlt : k < l.length
        · have hlt' : (k : Int) < (l.length : Int) := by omega
          have hsum := IntWalk.i64_in ((k : Int) + 1) (by omega)
          obtain ⟨g1, o1, cp1, hv, hP, hg, _, _, hcell⟩ := RowE.cells HR7.out (by rw [HLEN.out]; omega)
          rw [HLEN.out] at hv
          cases hv
          have hck := hcell k _ (mineK_get hlt) (· ∈ [bb, bc]) wr (hG.q (fun _ h => h)) (by simp; omega)
          clear hcell
          have hmv : (Mx.meta_ ((k : Int) + 1)).2 = if kp few Sd (mineK l k) then sMeta 1 0 else sAfter 0 c.last := by
            rw [Mm.meta_val hmx.ok (by omega) (by rw [hxc]; omega), hxe, hxc]
            have := HKR.out.mt k hlt
            unfold met at this; rw [HKR.out.mc] at this; exact this
          have hxe2 : (Mx.meta_ ((k : Int) + 1)).1.b.cells = Mf.b.cells := (Mm.meta_cells _ _).trans hxe
          have hcs := cnt_succ (p := kp few Sd) hlt
          rw [← hA] at hcs
          have hkat : kp few Sd (mineK l k) = true → K[A]? = some (mineK l k) := fun hp => by rw [HKR.out.k, hA]; exact filter_at (mineK_get hlt) hp
          have hBw : Blk wr w.heap.size _ _ := hB7.fr hG (by simp; omega)
          have hbc := hBw.cell
          have hnk : 0 ≤ c.keep := by have := hc.k0; omega
          generalize mineK l k = x0 at *
          obtain ⟨y0, y1, y2⟩ := x0
          simp only at hck
          obtain ⟨c1, c2, c3⟩ := hck
          have HHA := Lib.hid hA; clear hA
          have HHC := Lib.hid hcs; clear hcs
          have HHK := Lib.hid hkat; clear hkat
          have HMV0 := Lib.hid hmv; clear hmv
          have HXE := Lib.hid hxe; clear hxe
          have HXE2 := Lib.hid hxe2; clear hxe2
          have HFEW := Lib.hid hfew; clear hfew
          go_upto_region 17 with fail
          refine name_world fun W8 hW8 => ?_
          have hbxW8 : Blk W8 wr.heap.size #[.int .u64 y0, .int .u64 y1, .int .u64 y2] 106 := hW8 ▸ Blk.new _ _ _
          have f8 : Fr [] wr W8 := hW8 ▸ (Fr.refl _ _).alloc _
          clear hW8 c1 c2 c3 hbc
          have FAW8 := hG.trans f8.nil
          have hmW8 := hmx.fr0 f8
          have hbwW8 := hBw.fr0 f8
          have hbc8 := hbwW8.cell
          have hbx8 := hbxW8.cell
          by_cases hf : (l.length : Int) < c.keep
          · have hp : kp few Sd ⟨y0, y1, y2⟩ = true := by simp [kp, HFEW.out, hf]
            have hmv : (Mx.meta_ ((k : Int) + 1)).2 = sMeta 1 0 := by rw [HMV0.out, if_pos hp]
            have hcs : A + 1 = cnt l (kp few Sd) (k + 1) := by rw [HHC.out, if_pos hp]
            have HCS := Lib.hid hcs; clear hcs
            have hat := HHK.out hp
            have hAlt : A < K.length := (List.getElem?_eq_some_iff.1 hat).1
            obtain ⟨g, off, cp6, hv6', hP6, hg6, _, _, hcellA0⟩ := RowE.cells HR6.out (by omega)
            cases hv6'
            have hcellA := fun Q w' f hq => hcellA0 A _ hat Q w' f hq
            clear hcellA0 hat
            have hxe2 := HXE2.out
            go_upto_region 18 with fail
            have hge : ¬ (K.length : Int) ≤ (A : Int) := by omega
            have hasum := IntWalk.i64_in ((A : Int) + 1) (by omega)
            have hks : ∀ w', Fr [bb, bc] W8 w' → w'.cell? ⟨g, off + A * 3, none⟩ = some (.int .u64 y0) ∧ w'.cell? ⟨g, off + A * 3 + 1, none⟩ = some (.int .u64 y1) ∧ w'.cell? ⟨g, off + A * 3 + 2, none⟩ = some (.int .u64 y2) := fun w' h => hcellA (· ∈ [bb, bc]) w' ((FAW8.trans h).q (fun _ h => h)) (by simp; omega)
            have hk0 : ∀ w', Fr [bb, bc] W8 w' → w'.cell? ⟨g, off + A * 3, none⟩ = some (.int .u64 y0) := fun w' h => (hks w' h).1
            have hk1 : ∀ w', Fr [bb, bc] W8 w' → w'.cell? ⟨g, off + A * 3 + 1, none⟩ = some (.int .u64 y1) := fun w' h => (hks w' h).2.1
            have hk2 : ∀ w', Fr [bb, bc] W8 w' → w'.cell? ⟨g, off + A * 3 + 2, none⟩ = some (.int .u64 y2) := fun w' h => (hks w' h).2.2
            clear hks
            have hbq : ∀ w', Fr [bb, bc] W8 w' → ∀ i, w'.cell? ⟨wr.heap.size, i, none⟩ = _ := fun w' h i => (hbxW8.fr h (by simp; omega)).cell i
            have hrf := Fr.refl [bb, bc] W8
            have hneq := run_neq_entry y0 y1 y2
            have HMV := Lib.hid hmv; clear hmv
            go_region_held3 (fun w' => Fr [bb, bc] W8 w') (repeat (first | with_reducible assumption | with_reducible exact Fr.refl _ _ | with_reducible refine Fr.drew ?_ | (with_reducible refine Fr.setM ?_ ?hm _; case hm => (simp; done)) | (with_reducible refine Fr.setN ?_ ?hn _; case hn => omega) | with_reducible refine Fr.alloc ?_ _ | with_reducible exact Fr.nil (by with_reducible assumption))) (first | (go_at_call 29; (with_reducible refine (meta2_any bm bb bc Mx ((k : Int) + 1) _ (hmW8.fr0 ((Fr.refl _ _).drew))).mono ?_); rintro e W13 ⟨rfl, f13, hm13⟩; rw [HMV.out]; replace f13 : Fr [bb, bc] W8 W13 := Fr.trans (Fr.refl _ _).drew f13) | (go_at_call 87; refine (rTaken_any 0 _ (by omega) (by omega)).mono ?_; rintro e w1 ⟨rfl, rfl⟩))
            go_wp2_with fail
            go_roundw
            case rel => exact ⟨k + 1, A + 1, _, hlt, HCS.out, by simp, by simp, hm13, hxc, hxe2, FAW8.trans f13⟩
            case measure => simp [intOf]; omega
          · cases hcv : cov ⟨y0, y1, y2⟩ Sd
            · have hp : ¬ kp few Sd ⟨y0, y1, y2⟩ = true := by simp [kp, HFEW.out, hf, hcv]
              have hmv : (Mx.meta_ ((k : Int) + 1)).2 = sAfter 0 c.last := by rw [HMV0.out, if_neg hp]
              have hcs : A = cnt l (kp few Sd) (k + 1) := by rw [HHC.out, if_neg hp]; rfl
              have HCS := Lib.hid hcs; clear hcs
              have hxe3 : ((Mx.meta_ ((k : Int) + 1)).1.meta_ ((k : Int) + 1)).1.b.cells = Mf.b.cells := (Mm.meta_cells _ _).trans HXE2.out
              have hmv2 : ((Mx.meta_ ((k : Int) + 1)).1.meta_ ((k : Int) + 1)).2 = sAfter 0 c.last := by
                rw [← hmv, Mm.meta_val (Mm.meta_ok hmx.ok _) (by omega) (by show _ ≤ Mx.c.cap; rw [hxc]; omega), Mm.meta_val hmx.ok (by omega) (by rw [hxc]; omega), Mm.meta_cells]
                rfl
              have HCV := Lib.hid hcv; clear hcv
              go_upto_region 21 with (go_at_call 86; refine (covered_any ⟨y0, y1, y2⟩ v7 Sd _ (SlP.fr0 (SlP.frq HS7.out (FAW8.q (Q := (· ∈ [bb, bc])) (fun _ h => h)) (by intro b hq hb; simp at hq; omega)) (Fr.refl _ _)) (by omega)).mono ?_; rintro e W5 ⟨rfl, f5⟩; rw [HCV.out])
              have FAW5 := FAW8.trans f5.nil
              have hmW5 := hmW8.fr0 f5
              have hbwW5 := hbwW8.fr0 f5
              clear hbc8 hbx8
              have hbq : ∀ w', Fr [bb, bc] W5 w' → ∀ i, w'.cell? ⟨w.heap.size, i, none⟩ = _ := fun w' h i => (hbwW5.fr h (by simp; omega)).cell i
              have hrf := Fr.refl [bb, bc] W5
              have HMV := Lib.hid hmv; clear hmv
              have HMV2 := Lib.hid hmv2; clear hmv2
              have hst := after_state (last := c.last) hc.l0
              have hsb := sAfter_bd 0 c.last (by omega)
              have hs0 := hsb.1
              have hs1 : sAfter 0 c.last < 18446744073709551616 := by have := hsb.2; omega
              have hsf : (sState (sAfter 0 c.last) == 1) = false := by rw [beq_eq_false_iff_ne]; exact hst
              generalize haf : sAfter 0 c.last = aft at *
              have HAF := Lib.hid haf
              clear hst hsb haf
              go_region_held3 (fun w' => Fr [bb, bc] W5 w') (repeat (first | with_reducible assumption | with_reducible exact Fr.refl _ _ | with_reducible refine Fr.drew ?_ | (with_reducible refine Fr.setM ?_ ?hm _; case hm => (simp; done)) | (with_reducible refine Fr.setN ?_ ?hn _; case hn => omega) | with_reducible refine Fr.alloc ?_ _ | with_reducible exact Fr.nil (by with_reducible assumption))) (first | (go_at_call 29; (with_reducible refine (meta2_any bm bb bc Mx ((k : Int) + 1) _ (hmW5.fr0 ((Fr.refl _ _).drew))).mono ?_); rintro e W13 ⟨rfl, f13, hm13⟩; rw [HMV.out]; replace f13 : Fr [bb, bc] W5 W13 := Fr.trans (Fr.refl _ _).drew f13) | (go_at_call 88; refine (rAfter_any 0 c.last _ (by omega) (by omega) hc.l0 hc.l1).mono ?_; rintro e w1 ⟨rfl, rfl⟩; rw [HAF.out]) | (go_at_call 29; (with_reducible refine (meta2_any bm bb bc (Mx.meta_ ((k : Int) + 1)).1 ((k : Int) + 1) _ hm13).mono ?_); rintro e W14 ⟨rfl, f14, hm14⟩; rw [HMV2.out]; replace f14 : Fr [bb, bc] W5 W14 := Fr.trans f13 f14) | (go_at_call 31; refine (state_any aft _ hs0 hs1).mono ?_; rintro e w1 ⟨rfl, rfl⟩))
              go_wp2_with fail
              go_roundw
              case rel => exact ⟨k + 1, A, _, hlt, HCS.out, rfl, by simp, hm14, hxc, hxe3, FAW5.trans f14⟩
              case measure => simp [intOf]; omega
            · have hp : kp few Sd ⟨y0, y1, y2⟩ = true := by simp [kp, hcv]
              have hmv : (Mx.meta_ ((k : Int) + 1)).2 = sMeta 1 0 := by rw [HMV0.out, if_pos hp]
              have hcs : A + 1 = cnt l (kp few Sd) (k + 1) := by rw [HHC.out, if_pos hp]
              have HCS := Lib.hid hcs; clear hcs
              have hat := HHK.out hp
              have hAlt : A < K.length := (List.getElem?_eq_some_iff.1 hat).1
              obtain ⟨g, off, cp6, hv6', hP6, hg6, _, _, hcellA0⟩ := RowE.cells HR6.out (by omega)
              cases hv6'
              have hcellA := fun Q w' f hq => hcellA0 A _ hat Q w' f hq
              clear hcellA0 hat
              have hxe2 := HXE2.out
              have HCV := Lib.hid hcv; clear hcv
              go_upto_region 18 with (go_at_call 86; refine (covered_any ⟨y0, y1, y2⟩ v7 Sd _ (SlP.fr0 (SlP.frq HS7.out (FAW8.q (Q := (· ∈ [bb, bc])) (fun _ h => h)) (by intro b hq hb; simp at hq; omega)) (Fr.refl _ _)) (by omega)).mono ?_; rintro e W5 ⟨rfl, f5⟩; rw [HCV.out])
              have FAW5 := FAW8.trans f5.nil
              have hmW5 := hmW8.fr0 f5
              have hbxW5 := hbxW8.fr0 f5
              clear hbc8 hbx8
              have hge : ¬ (K.length : Int) ≤ (A : Int) := by omega
              have hasum := IntWalk.i64_in ((A : Int) + 1) (by omega)
              have hks : ∀ w', Fr [bb, bc] W5 w' → w'.cell? ⟨g, off + A * 3, none⟩ = some (.int .u64 y0) ∧ w'.cell? ⟨g, off + A * 3 + 1, none⟩ = some (.int .u64 y1) ∧ w'.cell? ⟨g, off + A * 3 + 2, none⟩ = some (.int .u64 y2) := fun w' h => hcellA (· ∈ [bb, bc]) w' ((FAW5.trans h).q (fun _ h => h)) (by simp; omega)
              have hk0 : ∀ w', Fr [bb, bc] W5 w' → w'.cell? ⟨g, off + A * 3, none⟩ = some (.int .u64 y0) := fun w' h => (hks w' h).1
              have hk1 : ∀ w', Fr [bb, bc] W5 w' → w'.cell? ⟨g, off + A * 3 + 1, none⟩ = some (.int .u64 y1) := fun w' h => (hks w' h).2.1
              have hk2 : ∀ w', Fr [bb, bc] W5 w' → w'.cell? ⟨g, off + A * 3 + 2, none⟩ = some (.int .u64 y2) := fun w' h => (hks w' h).2.2
              clear hks
              have hbq : ∀ w', Fr [bb, bc] W5 w' → ∀ i, w'.cell? ⟨wr.heap.size, i, none⟩ = _ := fun w' h i => (hbxW5.fr h (by simp; omega)).cell i
              have hrf := Fr.refl [bb, bc] W5
              have hneq := run_neq_entry y0 y1 y2
              have HMV := Lib.hid hmv; clear hmv
              go_region_held3 (fun w' => Fr [bb, bc] W5 w') (repeat (first | with_reducible assumption | with_reducible exact Fr.refl _ _ | with_reducible refine Fr.drew ?_ | (with_reducible refine Fr.setM ?_ ?hm _; case hm => (simp; done)) | (with_reducible refine Fr.setN ?_ ?hn _; case hn => omega) | with_reducible refine Fr.alloc ?_ _ | with_reducible exact Fr.nil (by with_reducible assumption))) (first | (go_at_call 29; (with_reducible refine (meta2_any bm bb bc Mx ((k : Int) + 1) _ (hmW5.fr0 ((Fr.refl _ _).drew))).mono ?_); rintro e W13 ⟨rfl, f13, hm13⟩; rw [HMV.out]; replace f13 : Fr [bb, bc] W5 W13 := Fr.trans (Fr.refl _ _).drew f13) | (go_at_call 87; refine (rTaken_any 0 _ (by omega) (by omega)).mono ?_; rintro e w1 ⟨rfl, rfl⟩))
              go_wp2_with fail
              go_roundw
              case rel => exact ⟨k + 1, A + 1, _, hlt, HCS.out, by simp, by simp, hm13, hxc, hxe2, FAW5.trans f13⟩
              case measure => simp [intOf]; omega
        · have hkn : k = l.length := by omega
          subst hkn
          have hAK : A = K.length := by rw [hA, cnt_end, HKR.out.k]
          subst hAK
          have hlt' : ¬ ((l.length : Nat) : Int) < ((l.length : Nat) : Int) := by omega
          have hsR := hs7.frq (hG.q (Q := (· ∈ [bb, bc])) (fun _ h => h)) (by intro b hb _ hm; unfold SwP at hb; simp at hm; omega) (by simp; omega)
          go_wp2_with (first | (go_at_call 80; refine (alive15 _).mono ?_; rintro e W5 ⟨rfl, f5⟩; have hs5 := hsR.frq (f5.q0 (Q := fun _ => False)) (by simp) (by simp)) | (go_at_call 82; refine (sdone_any bs _ _ hs5).mono ?_; rintro e w9 ⟨rfl, rfl⟩; simp only [SwSt.isDone]))
          go_ret
          exact ⟨rfl, SwQ.hide FW ((fQ9.trans f97.q0).trans (hG.q (by intro x hx; simp at hx; rcases hx with rfl | rfl; exact .inr (.inr (.inr (.inl rfl))); exact .inr (.inr (.inr (.inr rfl)))))) (by omega) (by omega) (by omega) (by omega) (by omega) f5⟩

theorem sweepKeeps_walk (w : World) (c : Cfg) (_ : c.W) (v : Value) (l : List En) (hv : SlE w v l) (he : Es l) (v2 : Value) (le : List Int) (hv2 : SlI .u64 w v2 le) (hle : Ws le) :
    Calls Try.prog 18 #[.agg #[.int .i64 c.threads, .int .i64 c.slots, .int .i64 c.cap, .int .i64 c.height, .int .i64 c.keep, .int .i64 c.every, .int .i64 c.last], v, v2] w fun e w' => e = .returned (.bool true) ∧ Fr [] w w' := by
  by_cases hc : c.R
  · by_cases hl : (l.length : Int) ≤ c.cap
    · exact sweepKeeps_in c hc v l w hv hl he v2 le hv2 hle
    · obtain ⟨a, cap, hv1⟩ := SlE.form hv
      exact sweepKeeps_out c v a l.length cap hv1 v2 w (.inr ⟨hc, by omega⟩)
  · obtain ⟨a, cap, hv1⟩ := SlE.form hv
    exact sweepKeeps_out c v a l.length cap hv1 v2 w (.inl hc)
end Go.Proofs.Ytaddjigmdeejlaa
