/- SweepOwn, the walk. -/
import Derived.Test.YtaddjigmdeejlaaSweepe
import Derived.Test.YtaddjigmdeejlaaLawNoneb
namespace Go.Proofs.Ytaddjigmdeejlaa
open Go.RowKit Go.Ss

set_option maxRecDepth 100000 in
theorem sweepOwn_out (c : Cfg) (v : Value) (a : Option Addr) (n cap : Nat) (hv : v = .slice a n cap) (v2 : Value) (w : World) (h : ¬ c.R ∨ (c.R ∧ c.cap < n)) :
    Calls Try.prog 20 #[.agg #[.int .i64 c.threads, .int .i64 c.slots, .int .i64 c.cap, .int .i64 c.height, .int .i64 c.keep, .int .i64 c.every, .int .i64 c.last], v, v2] w fun e w' => e = .returned (.bool true) ∧ Fr [] w w' := by
  subst hv
  have H := Lib.hid h; clear h
  obtain ⟨W0, hW0⟩ : ∃ W, w.alloc (.cells #[.int .i64 c.threads, .int .i64 c.slots, .int .i64 c.cap, .int .i64 c.height, .int .i64 c.keep, .int .i64 c.every, .int .i64 c.last] 23) = W := ⟨_, rfl⟩
  have hB0 : Blk W0 w.heap.size #[.int .i64 c.threads, .int .i64 c.slots, .int .i64 c.cap, .int .i64 c.height, .int .i64 c.keep, .int .i64 c.every, .int .i64 c.last] 23 := hW0 ▸ Blk.new _ _ _
  have F0 : Fr [] w W0 := hW0 ▸ (Fr.refl _ _).alloc _
  have hBc0 : ∀ w', Fr [] W0 w' → ∀ i, w'.cell? ⟨w.heap.size, i, none⟩ = _ := fun w' h i => (hB0.fr0 h).cell i
  have hBr0 := Fr.refl [] W0
  go_enter Try.func20, Try.ntmps20
  go_wp2_with (first | (go_at_call 78; refine (slots_bad c a n cap _ H.out).mono ?_; rintro e W1 ⟨rfl, f1⟩) | (go_at_call 79; refine (sweepNew_any (P := fun _ => True) _ [] _ (RowE.nil _ _) (by decide)).mono ?_; rintro e W2 ⟨bs, rfl, f2, qs, hs2⟩) | (go_at_call 38; refine (guardNew_any 0 _).mono ?_; rintro e W3 ⟨bg, rfl, f3, qg, hg3⟩) | (go_at_call 80; refine (alive15 _).mono ?_; rintro e W4 ⟨rfl, f4⟩))
  go_ret
  exact ⟨rfl, F0.trans (f1.trans (f2.trans (f3.trans f4)))⟩

set_option maxRecDepth 100000 in
set_option maxHeartbeats 2000000 in
theorem sweepOwn_in (c : Cfg) (hc : c.R) (v : Value) (l : List En) (w : World) (hv : SlE w v l) (hl : (l.length : Int) ≤ c.cap) (he : Es l) (v2 : Value) (le : List Int) (hv2 : SlI .u64 w v2 le) (hle : Ws le) :
    Calls Try.prog 20 #[.agg #[.int .i64 c.threads, .int .i64 c.slots, .int .i64 c.cap, .int .i64 c.height, .int .i64 c.keep, .int .i64 c.every, .int .i64 c.last], v, v2] w fun e w' => e = .returned (.bool true) ∧ Fr [] w w' := by
  obtain ⟨a2, cap2, hf2, _⟩ := id hv2
  subst hf2
  have HV2 := Lib.hid hv2; clear hv2
  obtain ⟨a, cap, rfl⟩ := SlE.form hv
  obtain ⟨W0, hW0⟩ : ∃ W, w.alloc (.cells #[.int .i64 c.threads, .int .i64 c.slots, .int .i64 c.cap, .int .i64 c.height, .int .i64 c.keep, .int .i64 c.every, .int .i64 c.last] 23) = W := ⟨_, rfl⟩
  have hB0 : Blk W0 w.heap.size #[.int .i64 c.threads, .int .i64 c.slots, .int .i64 c.cap, .int .i64 c.height, .int .i64 c.keep, .int .i64 c.every, .int .i64 c.last] 23 := hW0 ▸ Blk.new _ _ _
  have F0 : Fr [] w W0 := hW0 ▸ (Fr.refl _ _).alloc _
  have hBc0 : ∀ w', Fr [] W0 w' → ∀ i, w'.cell? ⟨w.heap.size, i, none⟩ = _ := fun w' h i => (hB0.fr0 h).cell i
  have hBr0 := Fr.refl [] W0
  have hv0 := SlE.fr0 hv F0
  have hc64 := hc.c1
  have hLen := mineL_length l l.length
  have HLEN := Lib.hid hLen; clear hLen
  have HV := Lib.hid hv; clear hv
  have z0 := F0.size
  have l0 := hB0.lt
  clear hBc0 hBr0
  have hb0 := hB0.cell
  go_enter Try.func20, Try.ntmps20
  go_upto_region 2 with (go_at_call 78; refine (slots_ok c hc _ l _ hv0 hl he).mono ?_; rintro e W1 ⟨bm, bb, bc, v1, rfl, f1, q1, q2, q3, hm1, hr1⟩; obtain ⟨a1, c1, hv1⟩ := RowE.form hr1; rw [HLEN.out] at hv1; subst hv1)
  have k1 := hm1.mem.lt
  have k2 := hm1.bank.bank.lt
  have k3 := hm1.bank.cells.lt
  go_upto_region 3 with (first | (go_at_call 79; refine (sweepNew_any _ (mineL l l.length) _ hr1 (by rw [HLEN.out]; omega)).mono ?_; rintro e W2 ⟨bs, rfl, f2, qs, hs2⟩) | (go_at_call 38; refine (guardNew_any 0 _).mono ?_; rintro e W3 ⟨bg, rfl, f3, qg, hg3⟩))
  have lg := Blk.lt hg3
  obtain ⟨hs3, ap3⟩ := sw_setup hs2 f3 qs qg lg k1 k2 k3
  have hm3 := (hm1.fr0 f2).fr0 f3
  have hr3 := RowE.fr0 (RowE.old hr1) (f2.trans f3)
  have hB3 := ((hB0.fr0 f1).fr0 f2).fr0 f3
  have z1 := f1.size
  have z2 := f2.size
  have z3 := f3.size
  have hb3 := hB3.cell
  have FW : Fr [] w W3 := F0.trans (f1.trans (f2.trans f3))
  clear hb0 hs2 hr1 hv0 hm1
  have hsl := hc.s0
  have hsl8 := hc.s1
  have hts := slots_bd hc
  obtain ⟨n, hn⟩ : ∃ n : Nat, c.slots = n := ⟨c.slots.toNat, by omega⟩
  obtain ⟨T, hT⟩ : ∃ T : Nat, c.threads * c.slots = T := ⟨(c.threads * c.slots).toNat, by omega⟩
  by_cases h70 : (70 : Int) < (le.length : Int)
  · go_wp2_with (go_at_call 80; refine (alive15 _).mono ?_; rintro e W5 ⟨rfl, f5⟩)
    go_ret
    exact ⟨rfl, FW.trans f5⟩
  by_cases hk : (l.length : Int) < c.keep
  · go_wp2_with (go_at_call 80; refine (alive15 _).mono ?_; rintro e W5 ⟨rfl, f5⟩)
    go_ret
    exact ⟨rfl, FW.trans f5⟩
  go_upto_region 6 with fail
  have lbs := hs3.lt
  have hsg := ap3.sg
  go_loopw [58] (fun i wr => ∃ (k : Nat) (G : Gd) (M : Mm), k ≤ le.length ∧ i = .int .i64 k ∧ OwnInv c G M ∧ MemAt wr bm bb bc M ∧ GdAt wr bg G ∧ Fr [bg, bb, bc] W3 wr) (fun i _ => le.length - (intOf i).toNat)
  case atStart => exact ⟨0, ⟨0, 0, 0⟩, _, Nat.zero_le _, rfl, OwnInv.start hc l.length hl, hm3, hg3, Fr.refl _ _⟩
  case round =>
    obtain ⟨k, G, M, hk', rfl, hI, hmr, hgr, hF⟩ := hrel
    by_cases hlt : k < le.length
    · obtain ⟨x, rfl, hera⟩ := SlI.word HV2.out (FW.nil.trans hF) (by intro b hb; simp at hb; omega) hlt
      obtain ⟨hw0, hw1⟩ := Ws.at_ hle hlt
      generalize le.getD k 0 = era at *
      have hlt' : (k : Int) < (le.length : Int) := by omega
      have hsum := IntWalk.i64_in ((k : Int) + 1) (by omega)
      have hI' := hI.publish hw0 hw1
      go_upto_region 9 with (go_at_call 40; refine (publish_any bg bm bb bc G M era _ hgr hmr (by omega) (by omega) (by omega) hI.g hw0 hw1).mono ?_; rintro e W4 ⟨rfl, f4, hm4, hg4⟩)
      have hF4 := hF.trans f4
      clear hF
      go_wp2_with fail
      go_roundw
      case rel => exact ⟨k + 1, _, _, hlt, by simp, hI', hm4, hg4, hF4⟩
      case measure => simp [intOf]; omega
    · have hkl : k = le.length := by omega
      subst hkl
      have hlt' : ¬ ((le.length : Nat) : Int) < ((le.length : Nat) : Int) := by omega
      have hs4 := hs3.frq (hF.q (Q := (· ∈ [bg, bb, bc])) (fun _ h => h)) (by intro b hb _ hm; unfold SwP at hb; simp at hm; omega) (by simp; omega)
      have ap4 := ap3.next hF.size
      have hzero := hI.seen n T hn hT
      obtain ⟨hend, hnd⟩ := Sst.all_many (mineL l l.length) M G hI.m n T (by rw [hI.mc]; exact hn) (by rw [hI.mc]; exact hT) (by omega) (by rw [hI.mc, HLEN.out]; omega)
      rw [keep_zero hzero, drop_zero hzero, HLEN.out] at hend
      rw [drop_zero hzero, HLEN.out] at hnd
      have hclr : ∀ s : Int, 0 ≤ s → s < c.slots → res (backs (seenM (clrM G.thread M n) T) (mineL l l.length)) 0 s = 0 := fun s s0 s1 => hI.cleared n T hn (mineL_of hl) s0 s1
      have hMf : (backs (seenM (clrM G.thread M n) T) (mineL l l.length)).c = c := by rw [backs_c, seenM_c, clrM_c]; exact hI.mc
      have okx : (⟨Sw.new (mineL l l.length), M, G⟩ : Sst).Ok c := ⟨(x15_ok hc he hl hI.m hI.mc).s, hI.m, hI.mc⟩
      generalize hSd : seenOf M G.thread n T = Sd at *
      clear hSd hzero
      obtain ⟨N, hNd⟩ : ∃ N : Nat, N = n + T + l.length := ⟨_, rfl⟩
      rw [← hNd] at hend hnd
      generalize backs (seenM (clrM G.thread M n) T) (mineL l l.length) = Mf at *
      have HE := Lib.hid hend; clear hend
      have HND := Lib.hid hnd; clear hnd
      have hNb : (N : Int) < 300 := by omega
      clear hNd
      have HCL := Lib.hid hclr; clear hclr
      have HMf := Lib.hid hMf; clear hMf
      have HN := Lib.hid hn; clear hn
      have HT := Lib.hid hT; clear hT
      clear hI
      go_upto_region 11 with (go_at_call 81; refine (ends_any _ bs bg bm bb bc ⟨Sw.new (mineL l l.length), M, G⟩ c N 300 _ ap4 ⟨hs4, hmr, hgr⟩ okx (by rw [HE.out]; rfl) HND.out hNb (by omega)).mono ?_; rintro e W9 ⟨rfl, f9, hx9⟩)
      replace hx9 : SstAt (SwP W1.heap.size bs bg) bs bg bm bb bc ⟨⟨.done, [], Sd⟩, Mf, ⟨0, 0, G.thread⟩⟩ W9 := by
        rw [HE.out] at hx9; exact hx9
      have nxw : ¬ SwQ (SwP W1.heap.size bs bg) bs bg bb bc w.heap.size := by
        intro h; rcases h with h | h | h | h | h
        · have := h.1; omega
        all_goals omega
      have fQ9 : FrQ (SwQ (SwP W1.heap.size bs bg) bs bg bb bc) W3 W9 := (hF.q (by intro x hx; simp at hx; rcases hx with rfl | rfl | rfl; exact .inr (.inr (.inl rfl)); exact .inr (.inr (.inr (.inl rfl))); exact .inr (.inr (.inr (.inr rfl))))).trans f9
      have hb9 := (hB3.frq fQ9 nxw).cell
      clear hb3 hmr hgr hs4
      go_upto_region 12 with fail
      go_loopw [73] (fun i wr => ∃ (j : Nat) (Mx : Mm), (j : Int) ≤ c.slots ∧ i = .int .i64 j ∧ MemAt wr bm bb bc Mx ∧ Mx.c = c ∧ Mx.b.cells = Mf.b.cells ∧ Fr [bb, bc] W9 wr) (fun i _ => n - (intOf i).toNat)
      case atStart => exact ⟨0, Mf, by omega, rfl, hx9.m, HMf.out, rfl, Fr.refl _ _⟩
      case round =>
        obtain ⟨j, Mx, hj, rfl, hmx, hxc, hxe, hG⟩ := hrel
        by_cases hlt2 : (j : Int) < c.slots
        · have hsum := IntWalk.i64_in ((j : Int) + 1) (by omega)
          have hval : (Mx.reserved 0 j).2 = 0 := by
            rw [reserved_val hmx.ok (by omega) (by rw [hxc]; have := hc.t0; omega) (by omega) (by rw [hxc]; exact hlt2), hxe, hxc]
            have := HCL.out j (by omega) hlt2
            unfold res at this; rw [HMf.out] at this; exact this
          have hxe2 : (Mx.reserved 0 j).1.b.cells = Mf.b.cells := (Bk.load_cells _ _ _).trans hxe
          have HVL := Lib.hid hval; clear hval
          have hnj : (j : Int) < n := by have := HN.out; omega
          go_wp2_with (go_at_call 41; refine (reserved_any bm bb bc Mx 0 j _ hmx).mono ?_; rintro e W6 ⟨rfl, f6, hm6⟩; rw [HVL.out])
          go_roundw
          case rel => exact ⟨j + 1, _, by omega, by simp, hm6, hxc, hxe2, hG.trans f6⟩
          case measure => simp [intOf]; omega
        · have hg9 := Blk.fr hx9.g hG (by simp; omega)
          have hs9 := hx9.s.frq (hG.q (Q := (· ∈ [bb, bc])) (fun _ h => h)) (by intro b hb _ hm; unfold SwP at hb; simp at hm; omega) (by simp; omega)
          go_wp2_with (first | (go_at_call 80; refine (alive15 _).mono ?_; rintro e W5 ⟨rfl, f5⟩; have hg5 := Blk.fr0 hg9 f5; have hs5 := hs9.frq (f5.q0 (Q := fun _ => False)) (by simp) (by simp)) | (go_at_call 82; refine (sdone_any bs _ _ hs5).mono ?_; rintro e w9 ⟨rfl, rfl⟩; simp only [SwSt.isDone]) | (go_at_call 83; refine (skept_any bs _ _ hs5 (Nat.zero_le _)).mono ?_; rintro e W6 ⟨v6, rfl, f6, hv6⟩; obtain ⟨a6, c6, hv7⟩ := RowE.form hv6; replace hv7 : v6 = .slice a6 0 c6 := hv7; subst hv7; have hg6 := Blk.fr0 hg5 f6) | (go_at_call 42; refine (latest_any bg ⟨0, 0, G.thread⟩ _ hg6).mono ?_; rintro e w8 ⟨rfl, rfl⟩))
          go_ret
          exact ⟨rfl, SwQ.hide FW (fQ9.trans (hG.q (by intro x hx; simp at hx; rcases hx with rfl | rfl; exact .inr (.inr (.inr (.inl rfl))); exact .inr (.inr (.inr (.inr rfl)))))) (by omega) (by omega) (by omega) (by omega) (by omega) (f5.trans f6)⟩

theorem sweepOwn_walk (w : World) (c : Cfg) (_ : c.W) (v : Value) (l : List En) (hv : SlE w v l) (he : Es l) (v2 : Value) (le : List Int) (hv2 : SlI .u64 w v2 le) (hle : Ws le) :
    Calls Try.prog 20 #[.agg #[.int .i64 c.threads, .int .i64 c.slots, .int .i64 c.cap, .int .i64 c.height, .int .i64 c.keep, .int .i64 c.every, .int .i64 c.last], v, v2] w fun e w' => e = .returned (.bool true) ∧ Fr [] w w' := by
  by_cases hc : c.R
  · by_cases hl : (l.length : Int) ≤ c.cap
    · exact sweepOwn_in c hc v l w hv hl he v2 le hv2 hle
    · obtain ⟨a, cap, hv1⟩ := SlE.form hv
      exact sweepOwn_out c v a l.length cap hv1 v2 w (.inr ⟨hc, by omega⟩)
  · obtain ⟨a, cap, hv1⟩ := SlE.form hv
    exact sweepOwn_out c v a l.length cap hv1 v2 w (.inl hc)
end Go.Proofs.Ytaddjigmdeejlaa
