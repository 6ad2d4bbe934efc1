/- Contracts of package sweep: letting nodes go; a step. -/
import Derived.Test.YtaddjigmdeejlaaSweepb
namespace Go.Proofs.Ytaddjigmdeejlaa
open Go.RowKit Go.Ss

theorem RowE.tail {P : Nat → Prop} {w : World} {g off cap : Nat} {x : En} {t : List En} (h : RowE P w (.slice (some ⟨g, off, none⟩) (t.length + 1) cap) (x :: t)) :
    RowE P w (.slice (some ⟨g, off + 3, none⟩) t.length (cap - 1)) t ∧ (cap = 1 → RowE P w (.slice (some ⟨g, off, none⟩) t.length 0) t) := by
  rcases h with ⟨h, _⟩ | ⟨g', off', cap', vs, hv, hP, hB, h1, h2, h3⟩
  · cases h
  · cases hv
    simp only [List.length_cons] at h1
    refine ⟨.inr ⟨g, off + 3, cap - 1, vs, rfl, hP, hB, by omega, by omega, fun i e he => ?_⟩, fun hc => ?_⟩
    · have := h3 (i + 1) e he
      rw [show off + 3 + i * 3 = off + (i + 1) * 3 by omega]
      exact this
    · have ht : t = [] := List.eq_nil_of_length_eq_zero (by omega)
      subst ht
      exact .inr ⟨g, off, 0, vs, rfl, hP, hB, Nat.le_refl _, Nat.zero_le _, fun i e he => by simp at he⟩

set_option maxRecDepth 100000 in
set_option maxHeartbeats 1000000 in
theorem sfree1_any (P : Nat → Prop) (bs bg bm bb bc p q : Nat) (vl vs vo : Value) (o : List En) (S : Sw) (M : Mm) (G : Gd) (w : World) (ap : Apt P w bs bg bm bb bc)
    (hB : Blk w bs #[.func (.func 191) #[] #[.pointer (some ⟨p, 0, none⟩), .pointer (some ⟨q, 0, none⟩)], vl, vs] 194) (hl : RowE P w vl S.l) (hs : OwnW P w vs S.seen) (hp : P p) (hq : P q) (hp1 : Blk w p #[vo] 121) (hr : RowE P w vo o) (hq1 : Blk w q #[.pointer (some ⟨bs, 0, none⟩)] 124)
    (hm : MemAt w bm bb bc M) (hg : GdAt w bg G) (ho : o ≠ []) (hes : Es o) (hol : o.length ≤ 100) (hsl : S.seen.length ≤ 100) :
    Calls Try.prog 191 #[.pointer (some ⟨bm, 0, none⟩), .pointer (some ⟨bg, 0, none⟩), .pointer (some ⟨p, 0, none⟩), .pointer (some ⟨q, 0, none⟩)] w (SwPost P bs bg bm bb bc ⟨freeSt o.tail, S.l, S.seen⟩ (Mm.back M (o.headD ⟨0, 0, 0⟩).node) G w) := by
  have hpq : p ≠ q := hp1.ne_ hq1 (by decide)
  have pbs : p ≠ bs := fun h => ap.s (h ▸ hp)
  have pbg : p ≠ bg := fun h => ap.g (h ▸ hp)
  have pbm : p ≠ bm := fun h => ap.m (h ▸ hp)
  have pbb : p ≠ bb := fun h => ap.b (h ▸ hp)
  have pbc : p ≠ bc := fun h => ap.c (h ▸ hp)
  have qbs : q ≠ bs := fun h => ap.s (h ▸ hq)
  have qbb : q ≠ bb := fun h => ap.b (h ▸ hq)
  have qbc : q ≠ bc := fun h => ap.c (h ▸ hq)
  have hl' := RowE.ne hl hp1 (by decide)
  have hs' := OwnW.ne hs hp1 (by decide)
  have hr' := RowE.ne hr hp1 (by decide)
  obtain ⟨x, t, rfl⟩ : ∃ x t, o = x :: t := by cases o with | nil => exact absurd rfl ho | cons x t => exact ⟨x, t, rfl⟩
  obtain ⟨g, off, cap, rfl, hPg, hgl, hcl, hcm, hcell⟩ := RowE.cells hr (by simp)
  simp only [List.length_cons] at hp1 hr hr' hcl hcm hol
  have hx := hes x (List.mem_cons_self ..)
  have hx0 := hx.n0
  have hx1 := hx.n1
  have hc0 := hcell 0 x rfl (fun _ => False) w (FrQ.refl _ _) (by simp)
  simp only [Nat.zero_mul, Nat.add_zero] at hc0
  have hc00 := hc0.1
  clear hcell hc0
  have hpc := hp1.cell
  have hpos : (0 : Int) < (t.length : Int) + 1 := by omega
  go_enter Try.func191, Try.ntmps191
  go_upto_region 1 with (go_at_call 103; refine (back_any bm bb bc M x.node _ hm hx0 hx1).mono ?_; rintro e W1 ⟨rfl, f1, hm1⟩)
  have hp2 := hp1.fr f1 (by simp [pbb, pbc])
  have hp2c := hp2.cell
  have hp2f := hp2.frozen
  clear hpc hc00
  have htl := RowE.tail hr'
  by_cases hc1 : cap = 1
  · subst hc1
    have ht : t = [] := List.eq_nil_of_length_eq_zero (by omega)
    subst ht
    go_upto_region 2 with fail
    refine name_world fun W2 hW2 => ?_
    have hp3 := (by rw [← hW2]; (repeat (first | with_reducible apply Blk.drew | with_reducible apply Blk.setCell | (with_reducible apply Blk.setCell_ne; rotate_left; (simp; omega)) | with_reducible apply Blk.alloc | exact hp2)) : Blk W2 p _ 121); simp only [List.setIfInBounds_toArray, List.set_cons_succ, List.set_cons_zero] at hp3
    have f12 : Fr [p] W1 W2 := by rw [← hW2]; (repeat (first | with_reducible assumption | with_reducible exact Fr.refl _ _ | (with_reducible refine Fr.setM ?_ ?hm _; case hm => (simp; done)) | with_reducible refine Fr.drew ?_ | with_reducible refine Fr.alloc ?_ _ | (with_reducible refine Fr.setN ?_ ?hn _; case hn => omega) | with_reducible exact Fr.nil (by with_reducible assumption)))
    clear hW2 hp2c hp2f
    have F2 : Fr [p, bb, bc] w W2 := (f1.mono (by simp)).trans (f12.mono (by simp))
    have nP : ∀ R : Nat → Prop, ∀ b ∈ [p, bb, bc], ¬ (P b ∧ b ≠ p) := by
      intro _ b hb; simp at hb; rintro ⟨h1, h2⟩
      rcases hb with rfl | rfl | rfl
      · exact h2 rfl
      · exact ap.b h1
      · exact ap.c h1
    have hl2 := RowE.mono (RowE.fr hl' F2 (nP P)) (P' := P) (fun b h => h.1)
    have hs2 := OwnW.mono (OwnW.fr hs' F2 (nP P)) (P' := P) (fun b h => h.1)
    have hm2 : MemAt W2 bm bb bc _ := hm1.fr f12 (by simpa using pbm.symm) (by simpa using pbb.symm) (by simpa using pbc.symm)
    have hg2 : GdAt W2 bg G := Blk.fr hg F2 (by simp [pbg.symm, ap.gb, ap.gc])
    have hB2 := hB.fr F2 (by simp [pbs.symm, ap.sb, ap.sc])
    have hq2 := hq1.fr F2 (by simp [hpq.symm, qbb, qbc])
    have f2Q : FrQ (SwQ P bs bg bb bc) w W2 := F2.q (by intro x hx; simp at hx; rcases hx with rfl | rfl | rfl; (exact .inl hp); (exact .inr (.inr (.inr (.inl rfl)))); (exact .inr (.inr (.inr (.inr rfl)))))
    have hp3c := hp3.cell
    have hB2c := hB2.cell
    have hB2f := hB2.frozen
    have hq2c := hq2.cell
    go_wp2_with fail
    refine name_post (fun W9 hW9 => ?_)
    have hB9 := (by rw [← hW9]; (repeat (first | with_reducible apply Blk.drew | with_reducible apply Blk.setCell | (with_reducible apply Blk.setCell_ne; rotate_left; (simp; omega)) | with_reducible apply Blk.alloc | exact hB2)) : Blk W9 bs _ 194); simp only [List.setIfInBounds_toArray, List.set_cons_succ, List.set_cons_zero] at hB9
    have F9 : Fr [bs] W2 W9 := by rw [← hW9]; (repeat (first | with_reducible assumption | with_reducible exact Fr.refl _ _ | (with_reducible refine Fr.setM ?_ ?hm _; case hm => (simp; done)) | with_reducible refine Fr.drew ?_ | with_reducible refine Fr.alloc ?_ _ | (with_reducible refine Fr.setN ?_ ?hn _; case hn => omega) | with_reducible exact Fr.nil (by with_reducible assumption)))
    clear hW9
    (first | go_end0 | (refine bodyPost_ret (results_none rfl _ _ _) rfl ?_))
    exact ⟨rfl, f2Q.trans (F9.q (by intro x hx; simp at hx; subst hx; exact .inr (.inl rfl))), hm2.fr F9 (by simpa using ap.sm.symm) (by simpa using ap.sb.symm) (by simpa using ap.sc.symm), Blk.fr hg2 F9 (by simpa using ap.sg.symm), _, _, _, hB9, RowE.fr hl2 F9 (by simp; exact fun h => absurd h ap.s), OwnW.fr hs2 F9 (by simp; exact fun h => absurd h ap.s), rfl⟩
  · by_cases ht : t = []
    · subst ht
      go_upto_region 2 with fail
      refine name_world fun W2 hW2 => ?_
      have hp3 := (by rw [← hW2]; (repeat (first | with_reducible apply Blk.drew | with_reducible apply Blk.setCell | (with_reducible apply Blk.setCell_ne; rotate_left; (simp; omega)) | with_reducible apply Blk.alloc | exact hp2)) : Blk W2 p _ 121); simp only [List.setIfInBounds_toArray, List.set_cons_succ, List.set_cons_zero] at hp3
      have f12 : Fr [p] W1 W2 := by rw [← hW2]; (repeat (first | with_reducible assumption | with_reducible exact Fr.refl _ _ | (with_reducible refine Fr.setM ?_ ?hm _; case hm => (simp; done)) | with_reducible refine Fr.drew ?_ | with_reducible refine Fr.alloc ?_ _ | (with_reducible refine Fr.setN ?_ ?hn _; case hn => omega) | with_reducible exact Fr.nil (by with_reducible assumption)))
      clear hW2 hp2c hp2f
      have F2 : Fr [p, bb, bc] w W2 := (f1.mono (by simp)).trans (f12.mono (by simp))
      have nP : ∀ R : Nat → Prop, ∀ b ∈ [p, bb, bc], ¬ (P b ∧ b ≠ p) := by
        intro _ b hb; simp at hb; rintro ⟨h1, h2⟩
        rcases hb with rfl | rfl | rfl
        · exact h2 rfl
        · exact ap.b h1
        · exact ap.c h1
      have hl2 := RowE.mono (RowE.fr hl' F2 (nP P)) (P' := P) (fun b h => h.1)
      have hs2 := OwnW.mono (OwnW.fr hs' F2 (nP P)) (P' := P) (fun b h => h.1)
      have hm2 : MemAt W2 bm bb bc _ := hm1.fr f12 (by simpa using pbm.symm) (by simpa using pbb.symm) (by simpa using pbc.symm)
      have hg2 : GdAt W2 bg G := Blk.fr hg F2 (by simp [pbg.symm, ap.gb, ap.gc])
      have hB2 := hB.fr F2 (by simp [pbs.symm, ap.sb, ap.sc])
      have hq2 := hq1.fr F2 (by simp [hpq.symm, qbb, qbc])
      have f2Q : FrQ (SwQ P bs bg bb bc) w W2 := F2.q (by intro x hx; simp at hx; rcases hx with rfl | rfl | rfl; (exact .inl hp); (exact .inr (.inr (.inr (.inl rfl)))); (exact .inr (.inr (.inr (.inr rfl)))))
      have hp3c := hp3.cell
      have hB2c := hB2.cell
      have hB2f := hB2.frozen
      have hq2c := hq2.cell
      go_wp2_with fail
      refine name_post (fun W9 hW9 => ?_)
      have hB9 := (by rw [← hW9]; (repeat (first | with_reducible apply Blk.drew | with_reducible apply Blk.setCell | (with_reducible apply Blk.setCell_ne; rotate_left; (simp; omega)) | with_reducible apply Blk.alloc | exact hB2)) : Blk W9 bs _ 194); simp only [List.setIfInBounds_toArray, List.set_cons_succ, List.set_cons_zero] at hB9
      have F9 : Fr [bs] W2 W9 := by rw [← hW9]; (repeat (first | with_reducible assumption | with_reducible exact Fr.refl _ _ | (with_reducible refine Fr.setM ?_ ?hm _; case hm => (simp; done)) | with_reducible refine Fr.drew ?_ | with_reducible refine Fr.alloc ?_ _ | (with_reducible refine Fr.setN ?_ ?hn _; case hn => omega) | with_reducible exact Fr.nil (by with_reducible assumption)))
      clear hW9
      (first | go_end0 | (refine bodyPost_ret (results_none rfl _ _ _) rfl ?_))
      exact ⟨rfl, f2Q.trans (F9.q (by intro x hx; simp at hx; subst hx; exact .inr (.inl rfl))), hm2.fr F9 (by simpa using ap.sm.symm) (by simpa using ap.sb.symm) (by simpa using ap.sc.symm), Blk.fr hg2 F9 (by simpa using ap.sg.symm), _, _, _, hB9, RowE.fr hl2 F9 (by simp; exact fun h => absurd h ap.s), OwnW.fr hs2 F9 (by simp; exact fun h => absurd h ap.s), rfl⟩
    · go_upto_region 2 with fail
      refine name_world fun W2 hW2 => ?_
      have hp3 := (by rw [← hW2]; (repeat (first | with_reducible apply Blk.drew | with_reducible apply Blk.setCell | (with_reducible apply Blk.setCell_ne; rotate_left; (simp; omega)) | with_reducible apply Blk.alloc | exact hp2)) : Blk W2 p _ 121); simp only [List.setIfInBounds_toArray, List.set_cons_succ, List.set_cons_zero] at hp3
      have f12 : Fr [p] W1 W2 := by rw [← hW2]; (repeat (first | with_reducible assumption | with_reducible exact Fr.refl _ _ | (with_reducible refine Fr.setM ?_ ?hm _; case hm => (simp; done)) | with_reducible refine Fr.drew ?_ | with_reducible refine Fr.alloc ?_ _ | (with_reducible refine Fr.setN ?_ ?hn _; case hn => omega) | with_reducible exact Fr.nil (by with_reducible assumption)))
      clear hW2 hp2c hp2f
      have F2 : Fr [p, bb, bc] w W2 := (f1.mono (by simp)).trans (f12.mono (by simp))
      have nP : ∀ R : Nat → Prop, ∀ b ∈ [p, bb, bc], ¬ (P b ∧ b ≠ p) := by
        intro _ b hb; simp at hb; rintro ⟨h1, h2⟩
        rcases hb with rfl | rfl | rfl
        · exact h2 rfl
        · exact ap.b h1
        · exact ap.c h1
      have hl2 := RowE.mono (RowE.fr hl' F2 (nP P)) (P' := P) (fun b h => h.1)
      have hs2 := OwnW.mono (OwnW.fr hs' F2 (nP P)) (P' := P) (fun b h => h.1)
      have hm2 : MemAt W2 bm bb bc _ := hm1.fr f12 (by simpa using pbm.symm) (by simpa using pbb.symm) (by simpa using pbc.symm)
      have hg2 : GdAt W2 bg G := Blk.fr hg F2 (by simp [pbg.symm, ap.gb, ap.gc])
      have hB2 := hB.fr F2 (by simp [pbs.symm, ap.sb, ap.sc])
      have hq2 := hq1.fr F2 (by simp [hpq.symm, qbb, qbc])
      have f2Q : FrQ (SwQ P bs bg bb bc) w W2 := F2.q (by intro x hx; simp at hx; rcases hx with rfl | rfl | rfl; (exact .inl hp); (exact .inr (.inr (.inr (.inl rfl)))); (exact .inr (.inr (.inr (.inr rfl)))))
      have hp3c := hp3.cell
      have hr2 := RowE.mono (RowE.fr htl.1 F2 (nP P)) (P' := P) (fun b h => h.1)
      have hd : ((t.length : Int) == 0) = false := by rw [beq_eq_false_iff_ne]; have : t.length ≠ 0 := (fun h => ht (List.eq_nil_of_length_eq_zero h)); omega
      go_wp2_with fail
      (first | go_end0 | (refine bodyPost_ret (results_none rfl _ _ _) rfl ?_))
      have e : freeSt t = .free t := if_neg ht
      show SwPost P bs bg bm bb bc ⟨freeSt t, S.l, S.seen⟩ _ G w _ _
      rw [e]
      exact ⟨rfl, f2Q, hm2, hg2, _, _, _, hB2, hl2, hs2, p, q, _, rfl, hp, hq, hp3, hr2, hq2⟩

def Sw.step_post (P : Nat → Prop) (bs bg bm bb bc : Nat) (S : Sw) (M : Mm) (G : Gd) (w : World) (e : Ending) (w' : World) : Prop :=
  SwPost P bs bg bm bb bc (S.step M G).1 (S.step M G).2.1 (S.step M G).2.2 w e w'

set_option maxRecDepth 100000 in
theorem sstep_any (P : Nat → Prop) (bs bg bm bb bc : Nat) (S : Sw) (M : Mm) (G : Gd) (w : World) (ap : Apt P w bs bg bm bb bc) (hS : SwAt P w bs S) (hm : MemAt w bm bb bc M) (hg : GdAt w bg G) (ok : S.Ok M.c) :
    Calls Try.prog 91 #[.pointer (some ⟨bs, 0, none⟩), .pointer (some ⟨bm, 0, none⟩), .pointer (some ⟨bg, 0, none⟩)] w (Sw.step_post P bs bg bm bb bc S M G w) := by
  have hS0 := hS
  obtain ⟨fv, vl, vs, hB, hl, hs, hF⟩ := hS
  unfold Sw.step_post
  cases hst : S.st with
  | done =>
    have e : S.step M G = (S, M, G) := by unfold Sw.step; simp only [hst]
    rw [e]
    rw [hst] at hF
    obtain rfl : fv = .nilFunc := hF
    have hBc := hB.cell
    have H0 := Lib.hid hS0; clear hS0 e hst
    go_enter Try.func91, Try.ntmps91
    go_wp2_with fail
    (first | go_end0 | (refine bodyPost_ret (results_none rfl _ _ _) rfl ?_))
    exact ⟨rfl, FrQ.refl _ _, hm, hg, H0.out⟩
  | clear slot =>
    have e : S.step M G = (S.clearC slot M.c, (G.clear M slot).2, (G.clear M slot).1) := by unfold Sw.step; simp only [hst]
    rw [e]
    rw [hst] at hF
    obtain ⟨p, q, rfl, hp, hq, h1, h2⟩ := hF
    have hsl := ok.s0 slot hst
    have hl0 := ok.l0
    have hBc := hB.cell
    clear e hst hS0
    go_enter Try.func91, Try.ntmps91
    go_wp2_with (go_at_call 172; refine (sclear1_any P bs bg bm bb bc p q vl vs slot S M G _ ap hB hl hs hp hq h1 h2 hm hg hsl.1 hsl.2 hl0).mono ?_; rintro e W1 ⟨rfl, f1, hm1, hg1, hs1⟩)
    (first | go_end0 | (refine bodyPost_ret (results_none rfl _ _ _) rfl ?_))
    exact ⟨rfl, f1, hm1, hg1, hs1⟩
  | look =>
    have e : S.step M G = (S.lookC M.c (S.lookR M).2, (S.lookR M).1, G) := by unfold Sw.step; simp only [hst]
    rw [e]
    rw [hst] at hF
    obtain ⟨q, rfl, hq, h2⟩ := hF
    have hsl := ok.s1 hst
    have hl0 := ok.l0
    have hws := ok.ws
    have hBc := hB.cell
    clear e hst hS0
    go_enter Try.func91, Try.ntmps91
    go_wp2_with (go_at_call 182; refine (slook1_any P bs bg bm bb bc q vl vs S M G _ ap hB hl hs hq h2 hm hg hl0 hsl hws).mono ?_; rintro e W1 ⟨rfl, f1, hm1, hg1, hs1⟩)
    (first | go_end0 | (refine bodyPost_ret (results_none rfl _ _ _) rfl ?_))
    exact ⟨rfl, f1, hm1, hg1, hs1⟩
  | free o =>
    have e : S.step M G = (⟨freeSt o.tail, S.l, S.seen⟩, Mm.back M (o.headD ⟨0, 0, 0⟩).node, G) := by unfold Sw.step; simp only [hst]
    rw [e]
    rw [hst] at hF
    obtain ⟨p, q, vo, rfl, hp, hq, h1, h3, h2⟩ := hF
    have hsl := ok.s3 o hst
    have hs2 := ok.s2
    have hBc := hB.cell
    clear e hst hS0
    go_enter Try.func91, Try.ntmps91
    go_wp2_with (go_at_call 191; refine (sfree1_any P bs bg bm bb bc p q vl vs vo o S M G _ ap hB hl hs hp hq h1 h3 h2 hm hg hsl.1 hsl.2.1 hsl.2.2 (by omega)).mono ?_; rintro e W1 ⟨rfl, f1, hm1, hg1, hs1⟩)
    (first | go_end0 | (refine bodyPost_ret (results_none rfl _ _ _) rfl ?_))
    exact ⟨rfl, f1, hm1, hg1, hs1⟩

theorem Apt.next {P : Nat → Prop} {w w' : World} {bs bg bm bb bc : Nat} (h : Apt P w bs bg bm bb bc) (hz : w.heap.size ≤ w'.heap.size) : Apt P w' bs bg bm bb bc :=
  ⟨h.s, h.g, h.m, h.b, h.c, fun b hb => h.fresh b (by omega), h.sg, h.sm, h.sb, h.sc, h.gm, h.gb, h.gc⟩

set_option maxRecDepth 100000 in
theorem sdone_any {P : Nat → Prop} (bs : Nat) (S : Sw) (w : World) (hS : SwAt P w bs S) : Calls Try.prog 82 #[.pointer (some ⟨bs, 0, none⟩)] w fun e w' => e = .returned (.bool S.st.isDone) ∧ w = w' := by
  obtain ⟨fv, vl, vs, hB, hl, hs, hF⟩ := hS
  obtain ⟨st, _, _⟩ := S
  cases st with
  | done =>
    obtain rfl : fv = .nilFunc := hF
    have hc := hB.cell
    go_enter Try.func82, Try.ntmps82
    go_wp2
    go_ret
    exact ⟨rfl, rfl⟩
  | clear slot =>
    obtain ⟨p, q, rfl, _⟩ := hF
    have hc := hB.cell
    go_enter Try.func82, Try.ntmps82
    go_wp2
    go_ret
    exact ⟨rfl, rfl⟩
  | look =>
    obtain ⟨q, rfl, _⟩ := hF
    have hc := hB.cell
    go_enter Try.func82, Try.ntmps82
    go_wp2
    go_ret
    exact ⟨rfl, rfl⟩
  | free o =>
    obtain ⟨p, q, vo, rfl, _⟩ := hF
    have hc := hB.cell
    go_enter Try.func82, Try.ntmps82
    go_wp2
    go_ret
    exact ⟨rfl, rfl⟩

set_option maxRecDepth 100000 in
theorem skept_any {P : Nat → Prop} (bs : Nat) (S : Sw) (w : World) (hS : SwAt P w bs S) (hl0 : S.l.length ≤ 100) : Calls Try.prog 83 #[.pointer (some ⟨bs, 0, none⟩)] w (CloneE S.l w) := by
  obtain ⟨fv, vl, vs, hB, hl, hs, hF⟩ := hS
  have hc := hB.cell
  go_enter Try.func83, Try.ntmps83
  go_wp2_with (go_at_call 137; refine (cloneE_any vl S.l _ hl (by omega)).mono ?_; rintro e W1 ⟨v1, rfl, f1, hr1⟩)
  go_ret
  exact ⟨v1, rfl, f1, hr1⟩

def CloneW (l : List Int) (w : World) (e : Ending) (w' : World) : Prop := ∃ v', e = .returned v' ∧ Fr [] w w' ∧ OwnW (fun b => w.heap.size ≤ b) w' v' l
set_option maxRecDepth 100000 in
theorem sseen_any {P : Nat → Prop} (bs : Nat) (S : Sw) (w : World) (hS : SwAt P w bs S) (hl0 : S.seen.length ≤ 100) : Calls Try.prog 85 #[.pointer (some ⟨bs, 0, none⟩)] w (CloneW S.seen w) := by
  obtain ⟨fv, vl, vs, hB, hl, hs, hF⟩ := hS
  have hc := hB.cell
  go_enter Try.func85, Try.ntmps85
  go_wp2_with (go_at_call 139; refine (cloneW_any vs S.seen _ hs (by omega)).mono ?_; rintro e W1 ⟨v1, rfl, f1, hr1⟩)
  go_ret
  exact ⟨v1, rfl, f1, hr1⟩
end Go.Proofs.Ytaddjigmdeejlaa
