/- Contracts of package sweep: looking at reservations. -/
import Derived.Test.YtaddjigmdeejlaaSweepa
import Derived.Deep.AppendLies
import Derived.Test.YtaddjigmdeejlaaTail
namespace Go.Proofs.Ytaddjigmdeejlaa
open Go.RowKit Go.Ss

theorem set7 {w : World} {b T : Nat} {x0 x1 x2 x3 x4 x5 x6 : Value} (h : Blk w b #[x0, x1, x2, x3, x4, x5, x6] T) (y0 y1 y2 y3 y4 y5 y6 : Value) : Blk (((((((w.setCell ⟨b, 0, none⟩ y0).setCell ⟨b, 1, none⟩ y1).setCell ⟨b, 2, none⟩ y2).setCell ⟨b, 3, none⟩ y3).setCell ⟨b, 4, none⟩ y4).setCell ⟨b, 5, none⟩ y5).setCell ⟨b, 6, none⟩ y6) b #[y0, y1, y2, y3, y4, y5, y6] T := by
  have h1 := ((((((h.setCell 0 y0).setCell 1 y1).setCell 2 y2).setCell 3 y3).setCell 4 y4).setCell 5 y5).setCell 6 y6
  simp only [List.setIfInBounds_toArray, List.set_cons_succ, List.set_cons_zero] at h1
  exact h1

theorem RowE.nt {P : Nat → Prop} {w : World} {v : Value} {l : List En} {L : List Nat} (h : RowE P w v l) (hn : ∀ b T vs, Blk w b vs T → 26 ≠ T → b ∉ L) : RowE (fun b => P b ∧ b ∉ L) w v l := by
  rcases h with h | ⟨g, off, cap, vs, hv, hP, hB, hr⟩
  · exact .inl h
  · exact .inr ⟨g, off, cap, vs, hv, ⟨hP, hn _ _ _ hB (by decide)⟩, hB, hr⟩

set_option maxRecDepth 100000 in
theorem sfree_nil {P : Nat → Prop} (bs : Nat) (v : Value) (w : World) (hr : RowE P w v []) :
    Calls Try.prog 184 #[.pointer (some ⟨bs, 0, none⟩), v] w fun e w' => e = .returned .nilFunc ∧ Fr [] w w' := by
  obtain ⟨a, c, rfl⟩ := RowE.form hr
  obtain ⟨W0, hW0⟩ : ∃ W, w.alloc (.cells #[.pointer (some ⟨bs, 0, none⟩)] 124) = W := ⟨_, rfl⟩
  have hB0 : Blk W0 w.heap.size #[.pointer (some ⟨bs, 0, none⟩)] 124 := hW0 ▸ Blk.new _ _ _
  have F0 : Fr [] w W0 := hW0 ▸ (Fr.refl _ _).alloc _
  have hBc0 : ∀ w', Fr [] W0 w' → ∀ i, w'.cell? ⟨w.heap.size, i, none⟩ = _ := fun w' h i => (hB0.fr0 h).cell i
  have hBr0 := Fr.refl [] W0
  obtain ⟨W1, hW1⟩ : ∃ W, W0.alloc (.cells #[.slice a 0 c] 121) = W := ⟨_, rfl⟩
  have hB1 : Blk W1 W0.heap.size #[.slice a 0 c] 121 := hW1 ▸ Blk.new _ _ _
  have F1 : Fr [] W0 W1 := hW1 ▸ (Fr.refl _ _).alloc _
  have hBc1 : ∀ w', Fr [] W1 w' → ∀ i, w'.cell? ⟨W0.heap.size, i, none⟩ = _ := fun w' h i => (hB1.fr0 h).cell i
  have hBr1 := Fr.refl [] W1
  have hb1 := hB1.cell
  clear hBc0 hBr0 hBc1 hBr1
  go_enter Try.func184, Try.ntmps184
  go_wp2_with fail
  go_ret
  exact ⟨rfl, F0.trans F1⟩
def FreeSome (P : Nat → Prop) (bs : Nat) (o : List En) (w : World) (e : Ending) (w' : World) : Prop :=
  ∃ p q vo, e = .returned (.func (.func 191) #[] #[.pointer (some ⟨p, 0, none⟩), .pointer (some ⟨q, 0, none⟩)]) ∧ Fr [] w w' ∧ P p ∧ P q ∧ Blk w' p #[vo] 121 ∧ RowE P w' vo o ∧ Blk w' q #[.pointer (some ⟨bs, 0, none⟩)] 124
set_option maxRecDepth 100000 in
theorem sfree_some {P : Nat → Prop} (bs : Nat) (v : Value) (o : List En) (w : World) (hr : RowE P w v o) (ho : o ≠ []) (hf : ∀ b, w.heap.size ≤ b → P b) :
    Calls Try.prog 184 #[.pointer (some ⟨bs, 0, none⟩), v] w (FreeSome P bs o w) := by
  obtain ⟨a, c, rfl⟩ := RowE.form hr
  obtain ⟨W0, hW0⟩ : ∃ W, w.alloc (.cells #[.pointer (some ⟨bs, 0, none⟩)] 124) = W := ⟨_, rfl⟩
  have hB0 : Blk W0 w.heap.size #[.pointer (some ⟨bs, 0, none⟩)] 124 := hW0 ▸ Blk.new _ _ _
  have F0 : Fr [] w W0 := hW0 ▸ (Fr.refl _ _).alloc _
  have hBc0 : ∀ w', Fr [] W0 w' → ∀ i, w'.cell? ⟨w.heap.size, i, none⟩ = _ := fun w' h i => (hB0.fr0 h).cell i
  have hBr0 := Fr.refl [] W0
  obtain ⟨W1, hW1⟩ : ∃ W, W0.alloc (.cells #[.slice a o.length c] 121) = W := ⟨_, rfl⟩
  have hB1 : Blk W1 W0.heap.size #[.slice a o.length c] 121 := hW1 ▸ Blk.new _ _ _
  have F1 : Fr [] W0 W1 := hW1 ▸ (Fr.refl _ _).alloc _
  have hBc1 : ∀ w', Fr [] W1 w' → ∀ i, w'.cell? ⟨W0.heap.size, i, none⟩ = _ := fun w' h i => (hB1.fr0 h).cell i
  have hBr1 := Fr.refl [] W1
  have z0 := F0.size
  have l0 := hB0.lt
  have l1 := hB1.lt
  have hb1 := hB1.cell
  have hr1 := RowE.fr0 hr (F0.trans F1)
  have hB01 := hB0.fr0 F1
  clear hBc0 hBr0 hBc1 hBr1
  have hl : 0 < o.length := by cases o with | nil => exact absurd rfl ho | cons x l => simp
  have hd : ((o.length : Int) == 0) = false := by rw [beq_eq_false_iff_ne]; omega
  clear ho
  go_enter Try.func184, Try.ntmps184
  go_wp2_with fail
  go_ret
  exact ⟨W0.heap.size, w.heap.size, .slice a o.length c, rfl, F0.trans F1, hf _ z0, hf _ (Nat.le_refl _), hB1, hr1, hB01⟩

set_option maxRecDepth 100000 in
set_option maxHeartbeats 2000000 in
theorem slook1_any (P : Nat → Prop) (bs bg bm bb bc q : Nat) (vl vs : Value) (S : Sw) (M : Mm) (G : Gd) (w : World) (ap : Apt P w bs bg bm bb bc)
    (hB : Blk w bs #[.func (.func 182) #[] #[.pointer (some ⟨q, 0, none⟩)], vl, vs] 194) (hl : RowE P w vl S.l) (hs : OwnW P w vs S.seen) (hq : P q) (hq1 : Blk w q #[.pointer (some ⟨bs, 0, none⟩)] 124)
    (hm : MemAt w bm bb bc M) (hg : GdAt w bg G) (hl0 : S.l.length ≤ 100) (hn : (S.seen.length : Int) < M.c.threads * M.c.slots) (hw : Ws S.seen) :
    Calls Try.prog 182 #[.pointer (some ⟨bm, 0, none⟩), .pointer (some ⟨bg, 0, none⟩), .pointer (some ⟨q, 0, none⟩)] w (SwPost P bs bg bm bb bc (S.lookC M.c (S.lookR M).2) (S.lookR M).1 G w) := by
  have hR := hm.ok.r
  have hts := slots_bd hR
  have qbs : q ≠ bs := fun h => ap.s (h ▸ hq)
  have qbb : q ≠ bb := fun h => ap.b (h ▸ hq)
  have qbc : q ≠ bc := fun h => ap.c (h ▸ hq)
  obtain ⟨al, cl, rfl⟩ := RowE.form hl
  obtain ⟨as_, cs, rfl⟩ := SlP.form2 hs.slp
  have hmc : ∀ w', Fr [] w w' → ∀ i, w'.cell? ⟨bm, i, none⟩ = _ := fun w' h i => (hm.mem.fr0 h).cell i
  have hqc : ∀ w', Fr [] w w' → ∀ i, w'.cell? ⟨q, i, none⟩ = _ := fun w' h i => (hq1.fr0 h).cell i
  have hbc : ∀ w', Fr [] w w' → ∀ i, w'.cell? ⟨bs, i, none⟩ = _ := fun w' h i => (hB.fr0 h).cell i
  have hrf := Fr.refl [] w
  go_enter Try.func182, Try.ntmps182
  go_upto_region 0 with fail
  go_cut [5, 6] (fun v n wc => ∃ k : Nat, v = .pointer (some ⟨k, 0, none⟩) ∧ n = .int .i64 (S.seen.length : Int) ∧ Blk wc k #[.int .i64 M.c.threads, .int .i64 M.c.slots, .int .i64 M.c.cap, .int .i64 M.c.height, .int .i64 M.c.keep, .int .i64 M.c.every, .int .i64 M.c.last] 23 ∧ Fr [] w wc ∧ w.heap.size ≤ k)
  case first =>
    go_region_held3 (fun w' => Fr [] w w') (repeat (first | with_reducible assumption | with_reducible exact Fr.refl _ _ | with_reducible refine Fr.drew ?_ | (with_reducible refine Fr.setM ?_ ?hm _; case hm => (simp; done)) | (with_reducible refine Fr.setN ?_ ?hn _; case hn => omega) | with_reducible refine Fr.alloc ?_ _ | with_reducible exact Fr.nil (by with_reducible assumption))) (first | (go_at_call 115; refine (config_any M.c _).mono ?_; rintro e w1 ⟨rfl, hf0⟩; (try have hk8 : Blk w1 w.heap.size #[.int .i64 0, .int .i64 0, .int .i64 0, .int .i64 0, .int .i64 0, .int .i64 0, .int .i64 0] 23 := (Blk.drew (Blk.new w _ _)).fr0 hf0); (try have hk8c := hk8.cell); (try have hk8z := hk8.frozen); have hf : Fr [] w w1 := Fr.trans (by (first | assumption | exact Fr.refl _ _ | exact (Fr.refl _ _).drew | exact Fr.drew (by assumption))) hf0; have z8 := Fr.size hf))
    · go_wp2_with fail
      go_meet
      case rel => exact ⟨w1.heap.size, rfl, rfl, Blk.new _ _ _, hf.alloc _, z8⟩
    · go_wp2_with fail
      go_meet
      case rel => exact ⟨w.heap.size, rfl, rfl, set7 hk8 _ _ _ _ _ _ _, (by (repeat (first | with_reducible assumption | with_reducible exact Fr.refl _ _ | (with_reducible refine Fr.setM ?_ ?hm _; case hm => (simp; done)) | with_reducible refine Fr.drew ?_ | with_reducible refine Fr.alloc ?_ _ | (with_reducible refine Fr.setN ?_ ?hn _; case hn => omega) | with_reducible exact Fr.nil (by with_reducible assumption)))), Nat.le_refl _⟩
  case rest =>
    obtain ⟨k, rfl, rfl, hk, f1, hkz⟩ := hcut
    have hm1 := hm.fr0 f1
    have hg1 : GdAt wc bg G := Blk.fr0 hg f1
    have hB1 := hB.fr0 f1
    have hq2 := hq1.fr0 f1
    have hl1 := RowE.fr0 hl f1
    have hs1 := OwnW.fr hs f1 (by simp)
    have pk : P k := ap.fresh k hkz
    have kbb : k ≠ bb := fun h => ap.b (h ▸ pk)
    have kbc : k ≠ bc := fun h => ap.c (h ▸ pk)
    have kbs : k ≠ bs := fun h => ap.s (h ▸ pk)
    clear hmc hqc hbc hrf
    have hqc : ∀ w', Fr [bs, bb, bc] wc w' → ∀ i, w'.cell? ⟨q, i, none⟩ = _ := fun w' h i => (hq2.fr h (by simp [qbs, qbb, qbc])).cell i
    have hkc : ∀ w', Fr [bs, bb, bc] wc w' → ∀ i, w'.cell? ⟨k, i, none⟩ = _ := fun w' h i => (hk.fr h (by simp [kbs, kbb, kbc])).cell i
    have hbc := hB1.cell
    have hrf := Fr.refl [bs, bb, bc] wc
    have hs0 := hR.s0
    have hd0 : 0 ≤ (S.seen.length : Int) / M.c.slots := Int.ediv_nonneg (by omega) (by omega)
    have hd1 : 0 ≤ (S.seen.length : Int) % M.c.slots := Int.emod_nonneg _ (by omega)
    obtain ⟨i0, hi, hz0, hz1, hz2⟩ := info_parts info_word
    have hdle := Int.ediv_le_self (M.c.slots) (show 0 ≤ (S.seen.length : Int) by omega)
    have hdn : ¬ M.c.slots = 0 := by omega
    have hrl := Int.emod_lt_of_pos (S.seen.length : Int) (show 0 < M.c.slots by omega)
    have hw1 : IntKind.i64.wrap ((S.seen.length : Int) / M.c.slots) = (S.seen.length : Int) / M.c.slots := IntWalk.i64_in _ (by omega)
    have hw2 : IntKind.i64.wrap ((S.seen.length : Int) % M.c.slots) = (S.seen.length : Int) % M.c.slots := IntWalk.i64_in _ (by have := hR.s1; omega)
    have htm : (S.seen.length : Int).tmod M.c.slots = (S.seen.length : Int) % M.c.slots := Int.tmod_eq_emod_of_nonneg (by omega)
    clear hqc hkc hbc hrf
    go_upto_region 1 with fail
    refine wp_region_noPanic (region_T 19 (fun w' => (∀ i, w'.cell? ⟨q, i, none⟩ = #[.pointer (some ⟨bs, 0, none⟩)][i]?) ∧ (∀ i, w'.cell? ⟨k, i, none⟩ = #[.int .i64 M.c.threads, .int .i64 M.c.slots, .int .i64 M.c.cap, .int .i64 M.c.height, .int .i64 M.c.keep, .int .i64 M.c.every, .int .i64 M.c.last][i]?) ∧ (∀ i, w'.cell? ⟨bs, i, none⟩ = #[.func (.func 182) #[] #[.pointer (some ⟨q, 0, none⟩)], .slice al S.l.length cl, .slice as_ S.seen.length cs][i]?)) (by kernel_rfl) ?_)
    have hS : (∀ i, wc.drew.cell? ⟨q, i, none⟩ = #[.pointer (some ⟨bs, 0, none⟩)][i]?) ∧ (∀ i, wc.drew.cell? ⟨k, i, none⟩ = #[.int .i64 M.c.threads, .int .i64 M.c.slots, .int .i64 M.c.cap, .int .i64 M.c.height, .int .i64 M.c.keep, .int .i64 M.c.every, .int .i64 M.c.last][i]?) ∧ (∀ i, wc.drew.cell? ⟨bs, i, none⟩ = #[.func (.func 182) #[] #[.pointer (some ⟨q, 0, none⟩)], .slice al S.l.length cl, .slice as_ S.seen.length cs][i]?) := ⟨hq2.drew.cell, hk.drew.cell, hB1.drew.cell⟩
    refine anyT_take (i := 0) (v := ?_) rfl (by kernel_rfl) (by kernel_rfl) (by kernel_rfl) (by kernel_rfl) (fun _ _ _ h => h) hS (Or.inl ⟨by rfl, ?_⟩) ?_; rotate_left; (focus (intro w_ hSw; obtain ⟨hSa, hSb, hSc⟩ := hSw; go_simp; all_goals with_reducible rfl)); simp only [Act.put, List.setIfInBounds_toArray, List.set_cons_zero, List.set_cons_succ]
    refine anyT_take (i := 1) (v := ?_) rfl (by kernel_rfl) (by kernel_rfl) (by kernel_rfl) (by kernel_rfl) (fun _ _ _ h => h) hS (Or.inl ⟨by rfl, ?_⟩) ?_; rotate_left; (focus (intro w_ hSw; obtain ⟨hSa, hSb, hSc⟩ := hSw; go_simp; all_goals with_reducible rfl)); simp only [Act.put, List.setIfInBounds_toArray, List.set_cons_zero, List.set_cons_succ]
    refine anyT_take (i := 2) (v := ?_) rfl (by kernel_rfl) (by kernel_rfl) (by kernel_rfl) (by kernel_rfl) (fun _ _ _ h => h) hS (Or.inl ⟨by rfl, ?_⟩) ?_; rotate_left; (focus (intro w_ hSw; obtain ⟨hSa, hSb, hSc⟩ := hSw; go_simp; all_goals with_reducible rfl)); simp only [Act.put, List.setIfInBounds_toArray, List.set_cons_zero, List.set_cons_succ]
    refine anyT_take (i := 3) (v := ?_) rfl (by kernel_rfl) (by kernel_rfl) (by kernel_rfl) (by kernel_rfl) (fun _ _ _ h => h) hS (Or.inl ⟨by rfl, ?_⟩) ?_; rotate_left; (focus (intro w_ hSw; obtain ⟨hSa, hSb, hSc⟩ := hSw; go_simp; all_goals with_reducible rfl)); simp only [Act.put, List.setIfInBounds_toArray, List.set_cons_zero, List.set_cons_succ]
    refine anyT_take (i := 4) (v := ?_) rfl (by kernel_rfl) (by kernel_rfl) (by kernel_rfl) (by kernel_rfl) (fun _ _ _ h => h) hS (Or.inl ⟨by rfl, ?_⟩) ?_; rotate_left; (focus (intro w_ hSw; obtain ⟨hSa, hSb, hSc⟩ := hSw; go_simp; all_goals with_reducible rfl)); simp only [Act.put, List.setIfInBounds_toArray, List.set_cons_zero, List.set_cons_succ]
    refine anyT_take (i := 5) (v := ?_) rfl (by kernel_rfl) (by kernel_rfl) (by kernel_rfl) (by kernel_rfl) (fun _ _ _ h => h) hS (Or.inl ⟨by rfl, ?_⟩) ?_; rotate_left; (focus (intro w_ hSw; obtain ⟨hSa, hSb, hSc⟩ := hSw; go_simp; all_goals with_reducible rfl)); simp only [Act.put, List.setIfInBounds_toArray, List.set_cons_zero, List.set_cons_succ]
    refine anyT_take (i := 6) (v := ?_) rfl (by kernel_rfl) (by kernel_rfl) (by kernel_rfl) (by kernel_rfl) (fun _ _ _ h => h) hS (Or.inl ⟨by rfl, ?_⟩) ?_; rotate_left; (focus (intro w_ hSw; obtain ⟨hSa, hSb, hSc⟩ := hSw; go_simp; all_goals with_reducible rfl)); simp only [Act.put, List.setIfInBounds_toArray, List.set_cons_zero, List.set_cons_succ]
    refine anyT_take (i := 7) (v := ?_) rfl (by kernel_rfl) (by kernel_rfl) (by kernel_rfl) (by kernel_rfl) (fun _ _ _ h => h) hS (Or.inl ⟨by rfl, ?_⟩) ?_; rotate_left; (focus (intro w_ hSw; obtain ⟨hSa, hSb, hSc⟩ := hSw; go_simp; all_goals with_reducible rfl)); simp only [Act.put, List.setIfInBounds_toArray, List.set_cons_zero, List.set_cons_succ]
    refine anyT_take (i := 8) (v := ?_) rfl (by kernel_rfl) (by kernel_rfl) (by kernel_rfl) (by kernel_rfl) (fun _ _ _ h => h) hS (Or.inl ⟨by rfl, ?_⟩) ?_; rotate_left; (focus (intro w_ hSw; obtain ⟨hSa, hSb, hSc⟩ := hSw; go_simp; all_goals with_reducible rfl)); simp only [Act.put, List.setIfInBounds_toArray, List.set_cons_zero, List.set_cons_succ]
    refine anyT_take (i := 9) (v := ?_) rfl (by kernel_rfl) (by kernel_rfl) (by kernel_rfl) (by kernel_rfl) (fun _ _ _ h => h) hS (Or.inl ⟨by rfl, ?_⟩) ?_; rotate_left; (focus (intro w_ hSw; obtain ⟨hSa, hSb, hSc⟩ := hSw; go_simp; all_goals with_reducible rfl)); simp only [Act.put, List.setIfInBounds_toArray, List.set_cons_zero, List.set_cons_succ]
    refine anyT_take (i := 10) (v := ?_) rfl (by kernel_rfl) (by kernel_rfl) (by kernel_rfl) (by kernel_rfl) (fun _ _ _ h => h) hS (Or.inl ⟨by rfl, ?_⟩) ?_; rotate_left; (focus (intro w_ hSw; obtain ⟨hSa, hSb, hSc⟩ := hSw; go_simp; all_goals with_reducible rfl)); simp only [Act.put, List.setIfInBounds_toArray, List.set_cons_zero, List.set_cons_succ]
    refine anyT_take (i := 11) (v := ?_) rfl (by kernel_rfl) (by kernel_rfl) (by kernel_rfl) (by kernel_rfl) (fun _ _ _ h => h) hS (Or.inl ⟨by rfl, ?_⟩) ?_; rotate_left; (focus (intro w_ hSw; obtain ⟨hSa, hSb, hSc⟩ := hSw; go_simp; all_goals with_reducible rfl)); simp only [Act.put, List.setIfInBounds_toArray, List.set_cons_zero, List.set_cons_succ]
    refine anyT_take (i := 12) (v := ?_) rfl (by kernel_rfl) (by kernel_rfl) (by kernel_rfl) (by kernel_rfl) (fun _ _ _ h => h) hS (Or.inl ⟨by rfl, ?_⟩) ?_; rotate_left; (focus (intro w_ hSw; obtain ⟨hSa, hSb, hSc⟩ := hSw; go_simp; all_goals with_reducible rfl)); simp only [Act.put, List.setIfInBounds_toArray, List.set_cons_zero, List.set_cons_succ]
    refine anyT_take (i := 13) (v := ?_) rfl (by kernel_rfl) (by kernel_rfl) (by kernel_rfl) (by kernel_rfl) (fun _ _ _ h => h) hS (Or.inl ⟨by rfl, ?_⟩) ?_; rotate_left; (focus (intro w_ hSw; obtain ⟨hSa, hSb, hSc⟩ := hSw; go_simp; all_goals with_reducible rfl)); simp only [Act.put, List.setIfInBounds_toArray, List.set_cons_zero, List.set_cons_succ]
    refine anyT_one (i := 14) (by kernel_rfl) rfl (fun K hK => ?_)
    go_simp
    go_at_call 41
    refine (reserved_any bm bb bc M ((S.seen.length : Int) / M.c.slots) ((S.seen.length : Int) % M.c.slots) _ (hm1.fr0 ((Fr.refl _ _).drew))).mono ?_
    rintro e W3 ⟨rfl, f3, hm3⟩
    replace f3 : Fr [bb, bc] wc W3 := Fr.trans (Fr.refl _ _).drew f3
    have hq3 := hq2.fr f3 (by simp [qbb, qbc])
    have hk3 := hk.fr f3 (by simp [kbb, kbc])
    have hB3 := hB1.fr f3 (by simp [ap.sb, ap.sc])
    have hs3 := OwnW.fr hs1 f3 (by simp; exact ⟨fun h => absurd h ap.b, fun h => absurd h ap.c⟩)
    have hl3 := RowE.fr hl1 f3 (by simp; exact ⟨fun h => absurd h ap.b, fun h => absurd h ap.c⟩)
    have hg3 : GdAt W3 bg G := Blk.fr hg1 f3 (by simp [ap.gb, ap.gc])
    refine hK.out _ _ (fun _ => ⟨hq3.cell, hk3.cell, hB3.cell⟩) ?_
    clear hK K hS
    refine anyT_one (i := 15) (by kernel_rfl) rfl (fun K hK => ?_)
    go_simp
    refine hK.out _ _ (fun _ => ⟨(hq3.alloc _).cell, (hk3.alloc _).cell, (hB3.alloc _).cell⟩) ?_
    clear hK K
    refine anyT_one (i := 16) (by kernel_rfl) rfl (fun K hK => ?_)
    refine step_append_lies _ (by rfl) _ _ _ (by rfl) 0 26 i0 (.int .u64 0) 1 8 Try.underlying24 hi hz0 hz1 hz2 rfl (by decide) (.slice as_ S.seen.length cs) S.seen.length (S.seen.map (.int .u64)) (by rfl) (hs3.1.alloc _) ⟨W3.heap.size, 0, none⟩ 1 1 [.int .u64 (M.reserved ((S.seen.length : Int) / M.c.slots) ((S.seen.length : Int) % M.c.slots)).2] (by rfl) (by rfl) (cell_one_new _ _ _) (by simp [Value.oneCell']) (by omega) (by unfold maxLen; omega) (by omega) (Nat.zero_le _) (W3.heap.size + 1) (by simp) ?_
    intro gg gcap W4 hown4 hgr4 hat4 hlt4
    have gbs : ∀ g, (Value.slice as_ S.seen.length cs).ownBlock = some g → P g := hs3.2
    have hrow : (Value.slice as_ S.seen.length cs).ownBlock.toList = (Value.slice as_ S.seen.length cs).ownBlock.toList := rfl
    have f34 : Fr ((Value.slice as_ S.seen.length cs).ownBlock.toList) W3 W4 := ((Fr.refl [] W3).alloc (.cells #[.int .u64 (M.reserved ((S.seen.length : Int) / M.c.slots) ((S.seen.length : Int) % M.c.slots)).2] 26)).nil.trans (Fr.of_grown2 hgr4)
    have hnr : ∀ b, ¬ P b → b ∉ (Value.slice as_ S.seen.length cs).ownBlock.toList := by
      intro b hb hm'
      cases ho : (Value.slice as_ S.seen.length cs).ownBlock with
      | none => rw [ho] at hm'; simp at hm'
      | some g => rw [ho] at hm'; simp at hm'; subst hm'; exact hb (hs3.2 b ho)
    have hnt : ∀ b T vs, Blk W3 b vs T → 26 ≠ T → b ∉ (Value.slice as_ S.seen.length cs).ownBlock.toList := by
      intro b T vs hb hT hm'
      cases ho : (Value.slice as_ S.seen.length cs).ownBlock with
      | none => rw [ho] at hm'; simp at hm'
      | some g => rw [ho] at hm'; simp at hm'; subst hm'; exact ((OwnW.ne hs3 hb hT).2 b ho).2 rfl
    have hq4 := hq3.fr f34 (hnt _ _ _ hq3 (by decide))
    have hk4 := hk3.fr f34 (hnt _ _ _ hk3 (by decide))
    have hB4 := hB3.fr f34 (hnt _ _ _ hB3 (by decide))
    have hm4 : MemAt W4 bm bb bc _ := hm3.fr f34 (hnr _ ap.m) (hnr _ ap.b) (hnr _ ap.c)
    have hg4 : GdAt W4 bg G := Blk.fr hg3 f34 (hnr _ ap.g)
    refine hK.out _ _ (fun _ => ⟨hq4.cell, hk4.cell, hB4.cell⟩) ?_
    clear hK K
    simp only [Act.put, List.setIfInBounds_toArray, List.set_cons_zero, List.set_cons_succ]
    have hB4c := hB4.cell
    have hB4f := hB4.frozen
    refine anyT_one (i := 17) (by kernel_rfl) rfl (fun K hK => ?_)
    go_simp
    refine hK.out _ _ (fun _ => ⟨hq4.cell, hk4.cell, hB4.cell⟩) ?_
    clear hK K
    refine anyT_one (i := 18) (by kernel_rfl) rfl (fun K hK => ?_)
    go_simp
    refine hK.out _ _ (fun _ => ⟨hq4.cell, hk4.cell, hB4.cell⟩) ?_
    clear hK K
    refine anyT_one (i := 19) (by kernel_rfl) rfl (fun K hK => ?_)
    go_simp
    refine hK.out _ _ (fun h => absurd rfl h) ?_
    clear hK K
    refine anyT_done (by kernel_rfl) (NoPanic.normal ?_)
    clear hB4c hB4f
    go_upto_region 2 with fail
    refine name_world fun W5 hW5 => ?_
    have hB5 := (by rw [← hW5]; (repeat (first | with_reducible apply Blk.drew | with_reducible apply Blk.setCell | (with_reducible apply Blk.setCell_ne; rotate_left; (simp; omega)) | with_reducible apply Blk.alloc | exact hB4)) : Blk W5 bs _ 194); simp only [List.setIfInBounds_toArray, List.set_cons_succ, List.set_cons_zero] at hB5
    have f45 : Fr [bs] W4 W5 := by rw [← hW5]; (repeat (first | with_reducible assumption | with_reducible exact Fr.refl _ _ | (with_reducible refine Fr.setM ?_ ?hm _; case hm => (simp; done)) | with_reducible refine Fr.drew ?_ | with_reducible refine Fr.alloc ?_ _ | (with_reducible refine Fr.setN ?_ ?hn _; case hn => omega) | with_reducible exact Fr.nil (by with_reducible assumption)))
    clear hW5
    have hq5 := hq4.fr f45 (by simpa using qbs)
    have hk5 := hk4.fr f45 (by simpa using kbs)
    have hm5 := hm4.fr f45 (by simpa using ap.sm.symm) (by simpa using ap.sb.symm) (by simpa using ap.sc.symm)
    have hg5 : GdAt W5 bg G := Blk.fr hg4 f45 (by simpa using ap.sg.symm)
    have hl4 : RowE P W5 (.slice al S.l.length cl) S.l := RowE.fr (RowE.mono (RowE.fr (RowE.nt hl3 hnt) f34 (fun b hb h => h.2 hb)) (fun b h => h.1)) f45 (by simp; exact fun h => absurd h ap.s)
    have hlen' : (S.seen ++ [(S.lookR M).2]).length = S.seen.length + 1 := by simp
    have hz3 := f3.size
    have hz1 := f1.size
    have pgg : P gg := by
      rcases hat4 with h | h
      · exact hs3.2 gg h
      · rw [h]; exact ap.fresh _ (by omega)
    have hs5 : OwnW P W5 (.slice (some ⟨gg, 0, none⟩) (S.seen.length + 1) gcap) (S.seen ++ [(S.lookR M).2]) := by
      have h4 : OwnW P W4 (.slice (some ⟨gg, 0, none⟩) (S.seen.length + 1) gcap) (S.seen ++ [(S.lookR M).2]) := by
        refine ⟨?_, fun g hg => by simp [Value.ownBlock] at hg; rw [← hg]; exact pgg⟩
        rw [hlen', List.map_append]; exact hown4
      exact OwnW.fr h4 f45 (by simp; exact fun h => absurd h ap.s)
    have hz34 := f34.size
    have hz45 := f45.size
    have fQ : FrQ (SwQ P bs bg bb bc) w W5 := by
      refine (f1.q0).trans ((f3.q ?_).trans ((f34.q ?_).trans (f45.q ?_)))
      · intro x hx; simp at hx; rcases hx with rfl | rfl
        · exact .inr (.inr (.inr (.inl rfl)))
        · exact .inr (.inr (.inr (.inr rfl)))
      · intro x hx
        cases ho : (Value.slice as_ S.seen.length cs).ownBlock with
        | none => rw [ho] at hx; simp at hx
        | some g => rw [ho] at hx; simp at hx; subst hx; exact .inl (hs3.2 x ho)
      · intro x hx; simp at hx; subst hx; exact .inr (.inl rfl)
    clear f34 hgr4 hown4 hat4 hnr hnt hrow gbs hs3 hs1 hs hl hl1 hl3 hB3 hq3 hk3 hm3 hg3 hB4 hq4 hk4 hm4 hg4 hw1 hw2 htm
    have hR1 : (S.lookR M).1 = (M.reserved ((S.seen.length : Int) / M.c.slots) ((S.seen.length : Int) % M.c.slots)).1 := rfl
    have HR1 := Lib.hid hR1; clear hR1
    have hera : (S.lookR M).2 = (M.reserved ((S.seen.length : Int) / M.c.slots) ((S.seen.length : Int) % M.c.slots)).2 := rfl
    generalize hera' : (S.lookR M).2 = era at *
    have HERA := Lib.hid hera'; clear hera' hera
    have hk5c := hk5.cell
    have hq5c := hq5.cell
    have hB5c := hB5.cell
    have hms : IntKind.i64.wrap (M.c.threads * M.c.slots) = M.c.threads * M.c.slots := IntWalk.i64_in _ (by omega)
    by_cases hlt : (S.seen.length : Int) + 1 < M.c.threads * M.c.slots
    · go_wp2_with fail
      (first | go_end0 | (refine bodyPost_ret (results_none rfl _ _ _) rfl ?_))
      have e : S.lookC M.c era = ⟨.look, S.l, S.seen ++ [era]⟩ := by unfold Sw.lookC; rw [if_pos hlt]
      rw [HR1.out, e]
      exact ⟨rfl, fQ, hm5, hg5, _, _, _, hB5, hl4, hs5, q, rfl, hq, hq5⟩
    · go_upto_region 3 with fail
      have hqc : ∀ w', Fr [] W5 w' → ∀ i, w'.cell? ⟨q, i, none⟩ = _ := fun w' h i => (hq5.fr0 h).cell i
      have hbc : ∀ w', Fr [] W5 w' → ∀ i, w'.cell? ⟨bs, i, none⟩ = _ := fun w' h i => (hB5.fr0 h).cell i
      have hrf := Fr.refl [] W5
      clear hk5c hq5c hB5c
      go_region_held3 (fun w' => Fr [] W5 w') (repeat (first | assumption | exact Fr.refl _ _ | refine Fr.drew ?_ | refine Fr.set1 ?_ _ | refine Fr.alloc ?_ _ | refine Fr.drewN ?_ _ | exact Fr.nil (by assumption))) (first | (go_at_call 183; refine (split_any _ S.l _ (S.seen ++ [era]) _ (RowE.fr0 hl4 (by (first | assumption | exact Fr.refl _ _ | exact (Fr.refl _ _).drew | exact Fr.drew (by assumption)))) (by omega) (SlP.fr0 hs5.slp (by (first | assumption | exact Fr.refl _ _ | exact (Fr.refl _ _).drew | exact Fr.drew (by assumption)))) (by rw [hlen']; omega)).mono ?_; rintro e w6 ⟨v1, v2, rfl, ⟨ha1, ha2, ha3⟩, f6⟩; have hz6 : W5.heap.size ≤ _ := Fr.size (by (first | assumption | exact Fr.refl _ _ | exact (Fr.refl _ _).drew | exact Fr.drew (by assumption)) : Fr [] W5 _); replace ha1 := RowE.mono (RowE.own ha1 rfl) (P' := P) (fun b hb => ap.fresh b (by have := (ha1.lt b hb).1; omega)); replace ha2 := RowE.mono (RowE.own ha2 rfl) (P' := P) (fun b hb => ap.fresh b (by have := (ha2.lt b hb).1; omega)); obtain ⟨a1, c1, rfl⟩ := RowE.form ha1; obtain ⟨a2, c2, rfl⟩ := RowE.form ha2; replace f6 : Fr [] W5 w6 := Fr.trans (by (first | assumption | exact Fr.refl _ _ | exact (Fr.refl _ _).drew | exact Fr.drew (by assumption))) f6))
      have hB6 := hB5.fr0 f6
      have hq6 := hq5.fr0 f6
      have hB6c := hB6.cell
      have hB6f := hB6.frozen
      have hq6c := hq6.cell
      clear hqc hbc hrf
      go_upto_region 5 with fail
      refine name_world fun W7 hW7 => ?_
      have hB7 := (by rw [← hW7]; (repeat (first | with_reducible apply Blk.drew | with_reducible apply Blk.setCell | (with_reducible apply Blk.setCell_ne; rotate_left; (simp; omega)) | with_reducible apply Blk.alloc | exact hB6)) : Blk W7 bs _ 194); simp only [List.setIfInBounds_toArray, List.set_cons_succ, List.set_cons_zero] at hB7
      have f67 : Fr [bs] w6 W7 := by rw [← hW7]; (repeat (first | with_reducible assumption | with_reducible exact Fr.refl _ _ | (with_reducible refine Fr.setM ?_ ?hm _; case hm => (simp; done)) | with_reducible refine Fr.drew ?_ | with_reducible refine Fr.alloc ?_ _ | (with_reducible refine Fr.setN ?_ ?hn _; case hn => omega) | with_reducible exact Fr.nil (by with_reducible assumption)))
      clear hW7 hB6c hB6f hq6c
      have hq7 := hq6.fr f67 (by simpa using qbs)
      have ha1' := RowE.fr ha1 f67 (by simp; exact fun h => absurd h ap.s)
      have ha2' := RowE.fr ha2 f67 (by simp; exact fun h => absurd h ap.s)
      have hs7 := OwnW.fr hs5 (f6.nil.trans f67) (by simp; exact fun h => absurd h ap.s)
      have hm7 := hm5.fr (f6.nil.trans f67) (by simpa using ap.sm.symm) (by simpa using ap.sb.symm) (by simpa using ap.sc.symm)
      have hg7 : GdAt W7 bg G := Blk.fr hg5 (f6.nil.trans f67) (by simpa using ap.sg.symm)
      have fQ7 : FrQ (SwQ P bs bg bb bc) w W7 := fQ.trans ((f6.nil.trans f67).q (by intro x hx; simp at hx; subst hx; exact .inr (.inl rfl)))
      have hz7 := fQ7.size
      have hqc : ∀ w', Fr [bs] W7 w' → ∀ i, w'.cell? ⟨q, i, none⟩ = _ := fun w' h i => (hq7.fr h (by simpa using qbs)).cell i
      have hrf := Fr.refl [bs] W7
      have e : S.lookC M.c era = ⟨freeSt (drop_ S.l (S.seen ++ [era])), keep S.l (S.seen ++ [era]), S.seen ++ [era]⟩ := by unfold Sw.lookC; rw [if_neg (by omega)]
      have E := Lib.hid e; clear e
      generalize drop_ S.l (S.seen ++ [era]) = o at *
      by_cases ho : o = []
      · subst ho
        go_region_held3 (fun w' => Fr [bs] W7 w') (repeat (first | with_reducible assumption | with_reducible exact Fr.refl _ _ | with_reducible refine Fr.drew ?_ | (with_reducible refine Fr.setM ?_ ?hm _; case hm => (simp; done)) | (with_reducible refine Fr.setN ?_ ?hn _; case hn => omega) | with_reducible refine Fr.alloc ?_ _ | with_reducible exact Fr.nil (by with_reducible assumption))) (first | (go_at_call 184; refine (sfree_nil (P := P) bs _ _ (RowE.fr0 ha2' ((Fr.refl _ _).drew))).mono ?_; rintro e W8 ⟨rfl, f8⟩; replace f8 : Fr [] W7 W8 := Fr.trans (Fr.refl _ _).drew f8; have hB8 := hB7.fr0 f8; have hB8c := hB8.cell; have hB8f := hB8.frozen))
        go_wp2_with fail
        refine name_post (fun W9 hW9 => ?_)
        have hB9 := (by rw [← hW9]; (repeat (first | with_reducible apply Blk.drew | with_reducible apply Blk.setCell | (with_reducible apply Blk.setCell_ne; rotate_left; (simp; omega)) | with_reducible apply Blk.alloc | exact hB8)) : Blk W9 bs _ 194); simp only [List.setIfInBounds_toArray, List.set_cons_succ, List.set_cons_zero] at hB9
        have F9 : Fr [bs] W8 W9 := by rw [← hW9]; (repeat (first | with_reducible assumption | with_reducible exact Fr.refl _ _ | (with_reducible refine Fr.setM ?_ ?hm _; case hm => (simp; done)) | with_reducible refine Fr.drew ?_ | with_reducible refine Fr.alloc ?_ _ | (with_reducible refine Fr.setN ?_ ?hn _; case hn => omega) | with_reducible exact Fr.nil (by with_reducible assumption)))
        clear hW9
        (first | go_end0 | (refine bodyPost_ret (results_none rfl _ _ _) rfl ?_))
        have f79 : Fr [bs] W7 W9 := f8.nil.trans F9
        rw [HR1.out, E.out]
        exact ⟨rfl, fQ7.trans (f79.q (by intro x hx; simp at hx; subst hx; exact .inr (.inl rfl))), hm7.fr f79 (by simpa using ap.sm.symm) (by simpa using ap.sb.symm) (by simpa using ap.sc.symm), Blk.fr hg7 f79 (by simpa using ap.sg.symm), _, _, _, hB9, RowE.fr ha1' f79 (by simp; exact fun h => absurd h ap.s), OwnW.fr hs7 f79 (by simp; exact fun h => absurd h ap.s), rfl⟩
      · go_region_held3 (fun w' => Fr [bs] W7 w') (repeat (first | with_reducible assumption | with_reducible exact Fr.refl _ _ | with_reducible refine Fr.drew ?_ | (with_reducible refine Fr.setM ?_ ?hm _; case hm => (simp; done)) | (with_reducible refine Fr.setN ?_ ?hn _; case hn => omega) | with_reducible refine Fr.alloc ?_ _ | with_reducible exact Fr.nil (by with_reducible assumption))) (first | (go_at_call 184; refine (sfree_some (P := P) bs _ _ _ (RowE.fr0 ha2' ((Fr.refl _ _).drew)) ho (fun b hb => ap.fresh b (Nat.le_trans hz7 hb))).mono ?_; rintro e W8 ⟨p9, q9, vo, rfl, f8, hp9, hq9, hpb, hro, hqb⟩; replace f8 : Fr [] W7 W8 := Fr.trans (Fr.refl _ _).drew f8; have hB8 := hB7.fr0 f8; have hB8c := hB8.cell; have hB8f := hB8.frozen))
        go_wp2_with fail
        refine name_post (fun W9 hW9 => ?_)
        have hB9 := (by rw [← hW9]; (repeat (first | with_reducible apply Blk.drew | with_reducible apply Blk.setCell | (with_reducible apply Blk.setCell_ne; rotate_left; (simp; omega)) | with_reducible apply Blk.alloc | exact hB8)) : Blk W9 bs _ 194); simp only [List.setIfInBounds_toArray, List.set_cons_succ, List.set_cons_zero] at hB9
        have F9 : Fr [bs] W8 W9 := by rw [← hW9]; (repeat (first | with_reducible assumption | with_reducible exact Fr.refl _ _ | (with_reducible refine Fr.setM ?_ ?hm _; case hm => (simp; done)) | with_reducible refine Fr.drew ?_ | with_reducible refine Fr.alloc ?_ _ | (with_reducible refine Fr.setN ?_ ?hn _; case hn => omega) | with_reducible exact Fr.nil (by with_reducible assumption)))
        clear hW9
        (first | go_end0 | (refine bodyPost_ret (results_none rfl _ _ _) rfl ?_))
        have f79 : Fr [bs] W7 W9 := f8.nil.trans F9
        have pb9 : p9 ≠ bs := fun h => ap.s (h ▸ hp9)
        have qb9 : q9 ≠ bs := fun h => ap.s (h ▸ hq9)
        rw [HR1.out, E.out, show freeSt o = .free o from if_neg ho]
        exact ⟨rfl, fQ7.trans (f79.q (by intro x hx; simp at hx; subst hx; exact .inr (.inl rfl))), hm7.fr f79 (by simpa using ap.sm.symm) (by simpa using ap.sb.symm) (by simpa using ap.sc.symm), Blk.fr hg7 f79 (by simpa using ap.sg.symm), _, _, _, hB9, RowE.fr ha1' f79 (by simp; exact fun h => absurd h ap.s), OwnW.fr hs7 f79 (by simp; exact fun h => absurd h ap.s), p9, q9, vo, rfl, hp9, hq9, hpb.fr F9 (by simpa using pb9), RowE.fr hro F9 (by simp; exact fun h => absurd h ap.s), hqb.fr F9 (by simpa using qb9)⟩
end Go.Proofs.Ytaddjigmdeejlaa
