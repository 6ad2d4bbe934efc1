/- SweepStalled, the walk. -/
import Derived.Test.YtaddjigmdeejlaaLawNoneb
namespace Go.Proofs.Ytaddjigmdeejlaa
open Go.RowKit Go.Ss

theorem stalled_kept {l : List En} {s : List Int} {era : Int} (h : ∀ x ∈ s, x = 0 ∨ x = era) {e : En} (he : e ∈ keep l s) : e.birth ≤ era ∧ era ≤ e.retired := by
  have h2 := (List.mem_filter.1 he).2
  unfold cov at h2
  rw [List.any_eq_true] at h2
  obtain ⟨x, hx, h3⟩ := h2
  simp [cov1] at h3
  rcases h x hx with rfl | rfl
  · exact absurd rfl h3.1
  · exact h3.2

set_option maxRecDepth 100000 in
theorem sweepStalled_out (c : Cfg) (v : Value) (a : Option Addr) (n cap : Nat) (hv : v = .slice a n cap) (era : Int) (w : World) (h : ¬ c.R ∨ (c.R ∧ c.cap < n)) :
    Calls Try.prog 17 #[.agg #[.int .i64 c.threads, .int .i64 c.slots, .int .i64 c.cap, .int .i64 c.height, .int .i64 c.keep, .int .i64 c.every, .int .i64 c.last], v, .int .u64 era] w fun e w' => e = .returned (.bool true) ∧ Fr [] w w' := by
  subst hv
  have H := Lib.hid h; clear h
  obtain ⟨W0, hW0⟩ : ∃ W, w.alloc (.cells #[.int .i64 c.threads, .int .i64 c.slots, .int .i64 c.cap, .int .i64 c.height, .int .i64 c.keep, .int .i64 c.every, .int .i64 c.last] 23) = W := ⟨_, rfl⟩
  have hB0 : Blk W0 w.heap.size #[.int .i64 c.threads, .int .i64 c.slots, .int .i64 c.cap, .int .i64 c.height, .int .i64 c.keep, .int .i64 c.every, .int .i64 c.last] 23 := hW0 ▸ Blk.new _ _ _
  have F0 : Fr [] w W0 := hW0 ▸ (Fr.refl _ _).alloc _
  have hBc0 : ∀ w', Fr [] W0 w' → ∀ i, w'.cell? ⟨w.heap.size, i, none⟩ = _ := fun w' h i => (hB0.fr0 h).cell i
  have hBr0 := Fr.refl [] W0
  go_enter Try.func17, Try.ntmps17
  go_wp2_with (first | (go_at_call 78; refine (slots_bad c a n cap _ H.out).mono ?_; rintro e W1 ⟨rfl, f1⟩) | (go_at_call 79; refine (sweepNew_any (P := fun _ => True) _ [] _ (RowE.nil _ _) (by decide)).mono ?_; rintro e W2 ⟨bs, rfl, f2, qs, hs2⟩) | (go_at_call 38; refine (guardNew_any 0 _).mono ?_; rintro e W3 ⟨bg, rfl, f3, qg, hg3⟩) | (go_at_call 80; refine (alive15 _).mono ?_; rintro e W4 ⟨rfl, f4⟩))
  go_ret
  exact ⟨rfl, F0.trans (f1.trans (f2.trans (f3.trans f4)))⟩

set_option maxRecDepth 100000 in
set_option maxHeartbeats 2000000 in
theorem sweepStalled_in (c : Cfg) (hc : c.R) (v : Value) (l : List En) (w : World) (hv : SlE w v l) (hl : (l.length : Int) ≤ c.cap) (he : Es l) (era : Int) (e0 : 0 ≤ era) (e1 : era < 18446744073709551616) :
    Calls Try.prog 17 #[.agg #[.int .i64 c.threads, .int .i64 c.slots, .int .i64 c.cap, .int .i64 c.height, .int .i64 c.keep, .int .i64 c.every, .int .i64 c.last], v, .int .u64 era] w fun e w' => e = .returned (.bool true) ∧ Fr [] w w' := by
  obtain ⟨a, cap, rfl⟩ := SlE.form hv
  obtain ⟨W0, hW0⟩ : ∃ W, w.alloc (.cells #[.int .i64 c.threads, .int .i64 c.slots, .int .i64 c.cap, .int .i64 c.height, .int .i64 c.keep, .int .i64 c.every, .int .i64 c.last] 23) = W := ⟨_, rfl⟩
  have hB0 : Blk W0 w.heap.size #[.int .i64 c.threads, .int .i64 c.slots, .int .i64 c.cap, .int .i64 c.height, .int .i64 c.keep, .int .i64 c.every, .int .i64 c.last] 23 := hW0 ▸ Blk.new _ _ _
  have F0 : Fr [] w W0 := hW0 ▸ (Fr.refl _ _).alloc _
  have hBc0 : ∀ w', Fr [] W0 w' → ∀ i, w'.cell? ⟨w.heap.size, i, none⟩ = _ := fun w' h i => (hB0.fr0 h).cell i
  have hBr0 := Fr.refl [] W0
  have hv0 := SlE.fr0 hv F0
  have hc64 := hc.c1
  have hLen := mineL_length l l.length
  have HLEN := Lib.hid hLen; clear hLen
  have HV := Lib.hid hv; clear hv
  have z0 := F0.size
  have l0 := hB0.lt
  clear hBc0 hBr0
  have hb0 := hB0.cell
  go_enter Try.func17, Try.ntmps17
  go_upto_region 2 with (go_at_call 78; refine (slots_ok c hc _ l _ hv0 hl he).mono ?_; rintro e W1 ⟨bm, bb, bc, v1, rfl, f1, q1, q2, q3, hm1, hr1⟩; obtain ⟨a1, c1, hv1⟩ := RowE.form hr1; rw [HLEN.out] at hv1; subst hv1)
  have k1 := hm1.mem.lt
  have k2 := hm1.bank.bank.lt
  have k3 := hm1.bank.cells.lt
  go_upto_region 3 with (first | (go_at_call 79; refine (sweepNew_any _ (mineL l l.length) _ hr1 (by rw [HLEN.out]; omega)).mono ?_; rintro e W2 ⟨bs, rfl, f2, qs, hs2⟩) | (go_at_call 38; refine (guardNew_any 0 _).mono ?_; rintro e W3 ⟨bg, rfl, f3, qg, hg3⟩))
  have lg := Blk.lt hg3
  obtain ⟨hs3, ap3⟩ := sw_setup hs2 f3 qs qg lg k1 k2 k3
  have hm3 := (hm1.fr0 f2).fr0 f3
  have hr3 := RowE.fr0 (RowE.old hr1) (f2.trans f3)
  have hB3 := ((hB0.fr0 f1).fr0 f2).fr0 f3
  have z1 := f1.size
  have z2 := f2.size
  have z3 := f3.size
  have hb3 := hB3.cell
  have FW : Fr [] w W3 := F0.trans (f1.trans (f2.trans f3))
  clear hb0 hs2 hr1 hv0 hm1
  have hsl := hc.s0
  have hsl8 := hc.s1
  have hts := slots_bd hc
  obtain ⟨n, hn⟩ : ∃ n : Nat, c.slots = n := ⟨c.slots.toNat, by omega⟩
  obtain ⟨T, hT⟩ : ∃ T : Nat, c.threads * c.slots = T := ⟨(c.threads * c.slots).toNat, by omega⟩
  by_cases h2 : c.threads < 2
  · go_wp2_with (go_at_call 80; refine (alive15 _).mono ?_; rintro e W5 ⟨rfl, f5⟩)
    go_ret
    exact ⟨rfl, FW.trans f5⟩
  by_cases hk : (l.length : Int) < c.keep
  · go_wp2_with (go_at_call 80; refine (alive15 _).mono ?_; rintro e W5 ⟨rfl, f5⟩)
    go_ret
    exact ⟨rfl, FW.trans f5⟩
  by_cases hz : era = 0
  · go_wp2_with (go_at_call 80; refine (alive15 _).mono ?_; rintro e W5 ⟨rfl, f5⟩)
    go_ret
    exact ⟨rfl, FW.trans f5⟩
  have ok1 : ((slotsM c l.length).reserve 1 0 era).Ok := Mm.reserve_ok (slotsM_ok hc _) 1 0 era e0 e1
  have hM1 : ((slotsM c l.length).reserve 1 0 era).c = c := slotsM_c c l.length
  have hseen : ∀ x ∈ seenOf ((slotsM c l.length).reserve 1 0 era) 0 n T, x = 0 ∨ x = era := by
    intro y hy
    obtain ⟨t', s', u0, u1, v0, v1, e⟩ := seenOf_mem ok1 0 n T (by rw [hM1]; exact hT) (by rw [hM1]; exact hn) hy
    rw [e]; split
    · exact .inl rfl
    · rw [hM1] at u1 v1
      have hMc := slotsM_c c l.length
      rw [reserve_get (slotsM_ok hc _) u0 (by rw [hMc]; exact u1) v0 (by rw [hMc]; exact v1), slotsM_res hc u0 u1 v0 v1 _ hl]
      split
      · exact .inr rfl
      · exact .inl rfl
  have hkept := fun e he => stalled_kept (l := mineL l l.length) hseen (e := e) he
  have HK := Lib.hid hkept; clear hkept hseen
  go_upto_region 6 with (go_at_call 84; refine (reserve_any bm bb bc (slotsM c l.length) 1 0 era _ hm3 e0 e1).mono ?_; rintro e W4 ⟨rfl, f4, hm4⟩)
  have lbs := hs3.lt
  have hs4 := hs3.frq (f4.q (Q := (· ∈ [bb, bc])) (fun _ h => h)) (by intro b hb _ hm; unfold SwP at hb; simp at hm; omega) (by simp; omega)
  have hg4 := Blk.fr hg3 f4 (by simp; omega)
  have ap4 := ap3.next f4.size
  clear hs3 hm3 hg3
  obtain ⟨hend, hnd⟩ := Sst.all_many (mineL l l.length) ((slotsM c l.length).reserve 1 0 era) ⟨0, 0, 0⟩ ok1 n T (by rw [hM1]; exact hn) (by rw [hM1]; exact hT) (by omega) (by rw [hM1, HLEN.out]; omega)
  have hD := drop_le (mineL l l.length) (seenOf ((slotsM c l.length).reserve 1 0 era) 0 n T)
  rw [HLEN.out] at hD
  obtain ⟨N, hNd⟩ : ∃ N : Nat, N = n + T + (drop_ (mineL l l.length) (seenOf ((slotsM c l.length).reserve 1 0 era) 0 n T)).length := ⟨_, rfl⟩
  rw [← hNd] at hend hnd
  have HE := Lib.hid hend; clear hend
  have HND := Lib.hid hnd; clear hnd
  have hNb : (N : Int) < 300 := by omega
  clear hNd hD
  have HN := Lib.hid hn; clear hn
  have HT := Lib.hid hT; clear hT
  have okx := x15_ok hc he hl ok1 hM1
  go_upto_region 7 with (go_at_call 81; refine (ends_any _ bs bg bm bb bc (x15 c l ((slotsM c l.length).reserve 1 0 era)) c N 300 _ ap4 ⟨hs4, hm4, hg4⟩ okx (by show (Sst.runs _ ⟨Sw.new _, _, _⟩).s.st.isDone = true; rw [HE.out]; rfl) HND.out hNb (by omega)).mono ?_; rintro e W9 ⟨rfl, f9, hx9⟩)
  replace hx9 : SstAt (SwP W1.heap.size bs bg) bs bg bm bb bc ⟨⟨.done, keep (mineL l l.length) (seenOf ((slotsM c l.length).reserve 1 0 era) 0 n T), seenOf ((slotsM c l.length).reserve 1 0 era) 0 n T⟩, backs (seenM (clrM 0 ((slotsM c l.length).reserve 1 0 era) n) T) (drop_ (mineL l l.length) (seenOf ((slotsM c l.length).reserve 1 0 era) 0 n T)), ⟨0, 0, 0⟩⟩ W9 := by
    have h2 : Sst.runs N (x15 c l ((slotsM c l.length).reserve 1 0 era)) = _ := HE.out
    rw [h2] at hx9; exact hx9
  obtain ⟨K, hKd⟩ : ∃ K, K = keep (mineL l l.length) (seenOf ((slotsM c l.length).reserve 1 0 era) 0 n T) := ⟨_, rfl⟩
  have hKl := keep_le (mineL l l.length) (seenOf ((slotsM c l.length).reserve 1 0 era) 0 n T)
  rw [HLEN.out, ← hKd] at hKl
  have HK2 := HK.out
  rw [← hKd] at HK2 hx9
  have HK3 := Lib.hid HK2; clear HK2 hKd HK
  go_upto_region 8 with (go_at_call 83; refine (skept_any bs _ _ hx9.s (by show K.length ≤ 100; omega)).mono ?_; rintro e W6 ⟨v6, rfl, f6, hv6⟩; obtain ⟨a6, c6, hv7⟩ := RowE.form hv6; replace hv7 : v6 = .slice a6 K.length c6 := hv7; subst hv7)
  have hs6 : SwAt (SwP W1.heap.size bs bg) W6 bs ⟨.done, K, seenOf ((slotsM c l.length).reserve 1 0 era) 0 n T⟩ := hx9.s.frq (f6.q0 (Q := fun _ => False)) (by simp) (by simp)
  replace hv6 : RowE (fun b => W9.heap.size ≤ b) W6 (.slice a6 K.length c6) K := hv6
  have HR := Lib.hid hv6
  clear hv6 hx9
  have FWQ : FrQ (SwQ (SwP W1.heap.size bs bg) bs bg bb bc) W3 W6 := ((f4.q (by intro x hx; simp at hx; rcases hx with rfl | rfl; exact .inr (.inr (.inr (.inl rfl))); exact .inr (.inr (.inr (.inr rfl))))).trans f9).trans f6.q0
  go_loopw [69] (fun i wr => ∃ k : Nat, k ≤ K.length ∧ i = .int .i64 k ∧ Fr [] W6 wr) (fun i _ => K.length - (intOf i).toNat)
  case atStart => exact ⟨0, Nat.zero_le _, rfl, Fr.refl _ _⟩
  case round =>
    obtain ⟨k, hk', rfl, hF⟩ := hrel
    by_cases hlt : k < K.length
    · obtain ⟨g, off, cap', hv, hP, hg, _, _, hcell⟩ := RowE.cells HR.out (by omega)
      cases hv
      have hck := hcell k _ (List.getElem?_eq_getElem hlt) _ wr (hF.q0 (Q := fun _ => False)) (by simp)
      have hlt' : (k : Int) < (K.length : Int) := by omega
      have hsum := IntWalk.i64_in ((k : Int) + 1) (by omega)
      have hbd := HK3.out _ (List.getElem_mem hlt)
      generalize K[k] = x0 at *
      obtain ⟨y0, y1, y2⟩ := x0
      simp only at hck hbd
      obtain ⟨c1, c2, c3⟩ := hck
      obtain ⟨hb1, hb2⟩ := hbd
      have hn1 : ¬ era < y1 := by omega
      have hn2 : ¬ y2 < era := by omega
      go_wp2_with fail
      go_roundw
      case rel => exact ⟨k + 1, hlt, by simp, hF.alloc _⟩
      case measure => simp [intOf]; omega
    · have hkl : k = K.length := by omega
      subst hkl
      have hlt' : ¬ ((K.length : Nat) : Int) < ((K.length : Nat) : Int) := by omega
      have hs7 := hs6.frq (hF.q0 (Q := fun _ => False)) (by simp) (by simp)
      go_wp2_with (first | (go_at_call 80; refine (alive15 _).mono ?_; rintro e W5 ⟨rfl, f5⟩; have hs5 := hs7.frq (f5.q0 (Q := fun _ => False)) (by simp) (by simp)) | (go_at_call 82; refine (sdone_any bs _ _ hs5).mono ?_; rintro e w9 ⟨rfl, rfl⟩; simp only [SwSt.isDone]))
      go_ret
      exact ⟨rfl, SwQ.hide FW FWQ (by omega) (by omega) (by omega) (by omega) (by omega) (hF.trans f5)⟩

theorem sweepStalled_walk (w : World) (c : Cfg) (_ : c.W) (v : Value) (l : List En) (hv : SlE w v l) (he : Es l) (era : Int) (h : 0 ≤ era ∧ era < 18446744073709551616) :
    Calls Try.prog 17 #[.agg #[.int .i64 c.threads, .int .i64 c.slots, .int .i64 c.cap, .int .i64 c.height, .int .i64 c.keep, .int .i64 c.every, .int .i64 c.last], v, .int .u64 era] w fun e w' => e = .returned (.bool true) ∧ Fr [] w w' := by
  by_cases hc : c.R
  · by_cases hl : (l.length : Int) ≤ c.cap
    · exact sweepStalled_in c hc v l w hv hl he era h.1 h.2
    · obtain ⟨a, cap, hv1⟩ := SlE.form hv
      exact sweepStalled_out c v a l.length cap hv1 era w (.inr ⟨hc, by omega⟩)
  · obtain ⟨a, cap, hv1⟩ := SlE.form hv
    exact sweepStalled_out c v a l.length cap hv1 era w (.inl hc)
end Go.Proofs.Ytaddjigmdeejlaa
