/- SweepNone, the walk. -/
import Derived.Test.YtaddjigmdeejlaaLawSetup
namespace Go.Proofs.Ytaddjigmdeejlaa
open Go.RowKit Go.Ss

set_option maxRecDepth 100000 in
theorem sweepNone_out (c : Cfg) (v : Value) (a : Option Addr) (n cap : Nat) (hv : v = .slice a n cap) (w : World) (h : ¬ c.R ∨ (c.R ∧ c.cap < n)) :
    Calls Try.prog 16 #[.agg #[.int .i64 c.threads, .int .i64 c.slots, .int .i64 c.cap, .int .i64 c.height, .int .i64 c.keep, .int .i64 c.every, .int .i64 c.last], v] w fun e w' => e = .returned (.bool true) ∧ Fr [] w w' := by
  subst hv
  have H := Lib.hid h; clear h
  obtain ⟨W0, hW0⟩ : ∃ W, w.alloc (.cells #[.int .i64 c.threads, .int .i64 c.slots, .int .i64 c.cap, .int .i64 c.height, .int .i64 c.keep, .int .i64 c.every, .int .i64 c.last] 23) = W := ⟨_, rfl⟩
  have hB0 : Blk W0 w.heap.size #[.int .i64 c.threads, .int .i64 c.slots, .int .i64 c.cap, .int .i64 c.height, .int .i64 c.keep, .int .i64 c.every, .int .i64 c.last] 23 := hW0 ▸ Blk.new _ _ _
  have F0 : Fr [] w W0 := hW0 ▸ (Fr.refl _ _).alloc _
  have hBc0 : ∀ w', Fr [] W0 w' → ∀ i, w'.cell? ⟨w.heap.size, i, none⟩ = _ := fun w' h i => (hB0.fr0 h).cell i
  have hBr0 := Fr.refl [] W0
  go_enter Try.func16, Try.ntmps16
  go_wp2_with (first | (go_at_call 78; refine (slots_bad c a n cap _ H.out).mono ?_; rintro e W1 ⟨rfl, f1⟩) | (go_at_call 79; refine (sweepNew_any (P := fun _ => True) _ [] _ (RowE.nil _ _) (by decide)).mono ?_; rintro e W2 ⟨bs, rfl, f2, qs, hs2⟩) | (go_at_call 38; refine (guardNew_any 0 _).mono ?_; rintro e W3 ⟨bg, rfl, f3, qg, hg3⟩) | (go_at_call 80; refine (alive15 _).mono ?_; rintro e W4 ⟨rfl, f4⟩))
  go_ret
  exact ⟨rfl, F0.trans (f1.trans (f2.trans (f3.trans f4)))⟩

set_option maxRecDepth 100000 in
set_option maxHeartbeats 2000000 in
theorem sweepNone_in (c : Cfg) (hc : c.R) (v : Value) (l : List En) (w : World) (hv : SlE w v l) (hl : (l.length : Int) ≤ c.cap) (he : Es l) :
    Calls Try.prog 16 #[.agg #[.int .i64 c.threads, .int .i64 c.slots, .int .i64 c.cap, .int .i64 c.height, .int .i64 c.keep, .int .i64 c.every, .int .i64 c.last], v] w fun e w' => e = .returned (.bool true) ∧ Fr [] w w' := by
  obtain ⟨a, cap, rfl⟩ := SlE.form hv
  obtain ⟨W0, hW0⟩ : ∃ W, w.alloc (.cells #[.int .i64 c.threads, .int .i64 c.slots, .int .i64 c.cap, .int .i64 c.height, .int .i64 c.keep, .int .i64 c.every, .int .i64 c.last] 23) = W := ⟨_, rfl⟩
  have hB0 : Blk W0 w.heap.size #[.int .i64 c.threads, .int .i64 c.slots, .int .i64 c.cap, .int .i64 c.height, .int .i64 c.keep, .int .i64 c.every, .int .i64 c.last] 23 := hW0 ▸ Blk.new _ _ _
  have F0 : Fr [] w W0 := hW0 ▸ (Fr.refl _ _).alloc _
  have hBc0 : ∀ w', Fr [] W0 w' → ∀ i, w'.cell? ⟨w.heap.size, i, none⟩ = _ := fun w' h i => (hB0.fr0 h).cell i
  have hBr0 := Fr.refl [] W0
  have hv0 := SlE.fr0 hv F0
  have hc64 := hc.c1
  have hLen := mineL_length l l.length
  have HLEN := Lib.hid hLen; clear hLen
  have HV := Lib.hid hv; clear hv
  have z0 := F0.size
  have l0 := hB0.lt
  clear hBc0 hBr0
  have hb0 := hB0.cell
  go_enter Try.func16, Try.ntmps16
  go_upto_region 2 with (go_at_call 78; refine (slots_ok c hc _ l _ hv0 hl he).mono ?_; rintro e W1 ⟨bm, bb, bc, v1, rfl, f1, q1, q2, q3, hm1, hr1⟩; obtain ⟨a1, c1, hv1⟩ := RowE.form hr1; rw [HLEN.out] at hv1; subst hv1)
  have k1 := hm1.mem.lt
  have k2 := hm1.bank.bank.lt
  have k3 := hm1.bank.cells.lt
  go_upto_region 3 with (first | (go_at_call 79; refine (sweepNew_any _ (mineL l l.length) _ hr1 (by rw [HLEN.out]; omega)).mono ?_; rintro e W2 ⟨bs, rfl, f2, qs, hs2⟩) | (go_at_call 38; refine (guardNew_any 0 _).mono ?_; rintro e W3 ⟨bg, rfl, f3, qg, hg3⟩))
  have lg := Blk.lt hg3
  obtain ⟨hs3, ap3⟩ := sw_setup hs2 f3 qs qg lg k1 k2 k3
  have hm3 := (hm1.fr0 f2).fr0 f3
  have hr3 := RowE.fr0 (RowE.old hr1) (f2.trans f3)
  have hB3 := ((hB0.fr0 f1).fr0 f2).fr0 f3
  have z1 := f1.size
  have z2 := f2.size
  have z3 := f3.size
  have hb3 := hB3.cell
  have FW : Fr [] w W3 := F0.trans (f1.trans (f2.trans f3))
  clear hb0 hs2 hr1 hv0 hm1
  have hsl := hc.s0
  have hsl8 := hc.s1
  have hts := slots_bd hc
  obtain ⟨n, hn⟩ : ∃ n : Nat, c.slots = n := ⟨c.slots.toNat, by omega⟩
  obtain ⟨T, hT⟩ : ∃ T : Nat, c.threads * c.slots = T := ⟨(c.threads * c.slots).toNat, by omega⟩
  have okx := x15_ok hc he hl (slotsM_ok hc l.length) (slotsM_c c l.length)
  have hMc := slotsM_c c l.length
  have hzero : ∀ y ∈ seenOf (slotsM c l.length) 0 n T, y = 0 := by
    intro y hy
    obtain ⟨t', s', u0, u1, v0, v1, e⟩ := seenOf_mem (slotsM_ok hc l.length) 0 n T (by rw [hMc]; exact hT) (by rw [hMc]; exact hn) hy
    rw [e]; split
    · rfl
    · exact slotsM_res hc u0 (by rw [hMc] at u1; exact u1) v0 (by rw [hMc] at v1; exact v1) _ hl
  have hk1 := hc.k1
  by_cases hk : c.keep ≤ (l.length : Int)
  · obtain ⟨hend, hnd⟩ := Sst.all_many (mineL l l.length) (slotsM c l.length) ⟨0, 0, 0⟩ (slotsM_ok hc _) n T (by rw [hMc]; exact hn) (by rw [hMc]; exact hT) (by omega) (by rw [hMc, HLEN.out]; exact hk)
    rw [keep_zero hzero, drop_zero hzero, HLEN.out] at hend
    rw [drop_zero hzero, HLEN.out] at hnd
    obtain ⟨N, hNd⟩ : ∃ N : Nat, N = n + T + l.length := ⟨_, rfl⟩
    rw [← hNd] at hend hnd
    have HE := Lib.hid hend; clear hend
    have HND := Lib.hid hnd; clear hnd hzero
    have HN := Lib.hid hn; clear hn
    have HT := Lib.hid hT; clear hT
    have hNb : (N : Int) < 300 := by have := HN.out; have := HT.out; omega
    have heq : ((N : Int) == c.slots + c.threads * c.slots + (l.length : Int)) = true := by rw [beq_iff_eq, HT.out, HN.out, hNd]; omega
    clear hNd
    go_upto_region 6 with (go_at_call 81; refine (ends_any _ bs bg bm bb bc (x15 c l (slotsM c l.length)) c N 300 _ ap3 ⟨hs3, hm3, hg3⟩ okx (by show (Sst.runs _ ⟨Sw.new _, _, _⟩).s.st.isDone = true; rw [HE.out]; rfl) HND.out hNb (by omega)).mono ?_; rintro e W4 ⟨rfl, f4, hx4⟩)
    have hx5 : SstAt (SwP W1.heap.size bs bg) bs bg bm bb bc ⟨⟨.done, [], seenOf (slotsM c l.length) 0 n T⟩, backs (seenM (clrM 0 (slotsM c l.length) n) T) (mineL l l.length), ⟨0, 0, 0⟩⟩ W4 := by
      have h2 : Sst.runs N (x15 c l (slotsM c l.length)) = _ := HE.out
      rw [h2] at hx4; exact hx4
    clear hx4
    have nxw : ¬ SwQ (SwP W1.heap.size bs bg) bs bg bb bc w.heap.size := by
      intro h; rcases h with h | h | h | h | h
      · have := h.1; omega
      all_goals omega
    have hB4 := hB3.frq f4 nxw
    have hb4 := hB4.cell
    clear hb3
    have hmul : IntKind.i64.wrap (c.threads * c.slots) = c.threads * c.slots := IntWalk.i64_in _ (by omega)
    have hadd : IntKind.i64.wrap (c.slots + c.threads * c.slots) = c.slots + c.threads * c.slots := IntWalk.i64_in _ (by omega)
    have hadd2 : IntKind.i64.wrap (c.slots + c.threads * c.slots + (l.length : Int)) = c.slots + c.threads * c.slots + (l.length : Int) := IntWalk.i64_in _ (by omega)
    have hkn : ¬ (l.length : Int) < c.keep := by omega
    go_wp2_with (first | (go_at_call 80; refine (alive15 _).mono ?_; rintro e W5 ⟨rfl, f5⟩; have hB5 := hB4.fr0 f5; have hb5 := hB5.cell; have hs5 := hx5.s.frq (f5.q0 (Q := fun _ => False)) (by simp) (by simp)) | (go_at_call 82; refine (sdone_any bs _ _ hs5).mono ?_; rintro e w9 ⟨rfl, rfl⟩; simp only [SwSt.isDone]) | (go_at_call 83; refine (skept_any bs _ _ hs5 (Nat.zero_le _)).mono ?_; rintro e W6 ⟨v6, rfl, f6, hv6⟩; obtain ⟨a6, c6, hv7⟩ := RowE.form hv6; replace hv7 : v6 = .slice a6 0 c6 := hv7; subst hv7))
    go_ret
    exact ⟨rfl, SwQ.hide FW f4 (by omega) (by omega) (by omega) (by omega) (by omega) (f5.trans f6)⟩
  · obtain ⟨hend, hnd⟩ := Sst.all_few (mineL l l.length) (slotsM c l.length) ⟨0, 0, 0⟩ n (by rw [hMc]; exact hn) (by omega) (by rw [hMc, HLEN.out]; exact hk)
    have HE := Lib.hid hend; clear hend
    have HND := Lib.hid hnd; clear hnd hzero
    have hNb : (n : Int) < 300 := by omega
    have heq : ((n : Int) == c.slots) = true := by rw [beq_iff_eq, hn]
    have HN := Lib.hid hn; clear hn
    have HT := Lib.hid hT; clear hT
    go_upto_region 6 with (go_at_call 81; refine (ends_any _ bs bg bm bb bc (x15 c l (slotsM c l.length)) c n 300 _ ap3 ⟨hs3, hm3, hg3⟩ okx (by show (Sst.runs _ ⟨Sw.new _, _, _⟩).s.st.isDone = true; rw [HE.out]; rfl) HND.out hNb (by omega)).mono ?_; rintro e W4 ⟨rfl, f4, hx4⟩)
    have hx5 : SstAt (SwP W1.heap.size bs bg) bs bg bm bb bc ⟨⟨.done, mineL l l.length, []⟩, clrM 0 (slotsM c l.length) n, ⟨0, 0, 0⟩⟩ W4 := by
      have h2 : Sst.runs n (x15 c l (slotsM c l.length)) = _ := HE.out
      rw [h2] at hx4; exact hx4
    clear hx4
    have nxw : ¬ SwQ (SwP W1.heap.size bs bg) bs bg bb bc w.heap.size := by
      intro h; rcases h with h | h | h | h | h
      · have := h.1; omega
      all_goals omega
    have hB4 := hB3.frq f4 nxw
    have hb4 := hB4.cell
    clear hb3
    have hkn : (l.length : Int) < c.keep := by omega
    go_wp2_with (first | (go_at_call 80; refine (alive15 _).mono ?_; rintro e W5 ⟨rfl, f5⟩; have hB5 := hB4.fr0 f5; have hb5 := hB5.cell; have hs5 := hx5.s.frq (f5.q0 (Q := fun _ => False)) (by simp) (by simp)) | (go_at_call 82; refine (sdone_any bs _ _ hs5).mono ?_; rintro e w9 ⟨rfl, rfl⟩; simp only [SwSt.isDone]) | (go_at_call 83; refine (skept_any bs _ _ hs5 (by show (mineL l l.length).length ≤ 100; rw [HLEN.out]; omega)).mono ?_; rintro e W6 ⟨v6, rfl, f6, hv6⟩; obtain ⟨a6, c6, hv7⟩ := RowE.form hv6; replace hv7 : v6 = .slice a6 (mineL l l.length).length c6 := hv7; rw [HLEN.out] at hv7; subst hv7))
    go_ret
    exact ⟨rfl, SwQ.hide FW f4 (by omega) (by omega) (by omega) (by omega) (by omega) (f5.trans f6)⟩

theorem sweepNone_walk (w : World) (c : Cfg) (_ : c.W) (v : Value) (l : List En) (hv : SlE w v l) (he : Es l) :
    Calls Try.prog 16 #[.agg #[.int .i64 c.threads, .int .i64 c.slots, .int .i64 c.cap, .int .i64 c.height, .int .i64 c.keep, .int .i64 c.every, .int .i64 c.last], v] w fun e w' => e = .returned (.bool true) ∧ Fr [] w w' := by
  by_cases hc : c.R
  · by_cases hl : (l.length : Int) ≤ c.cap
    · exact sweepNone_in c hc v l w hv hl he
    · obtain ⟨a, cap, hv1⟩ := SlE.form hv
      exact sweepNone_out c v a l.length cap hv1 w (.inr ⟨hc, by omega⟩)
  · obtain ⟨a, cap, hv1⟩ := SlE.form hv
    exact sweepNone_out c v a l.length cap hv1 w (.inl hc)
end Go.Proofs.Ytaddjigmdeejlaa
