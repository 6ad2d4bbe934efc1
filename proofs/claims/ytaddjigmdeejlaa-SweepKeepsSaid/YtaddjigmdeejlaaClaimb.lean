/- Contracts of package claim: the steps. -/
import Derived.Test.YtaddjigmdeejlaaClaim
namespace Go.Proofs.Ytaddjigmdeejlaa
open Go.RowKit Go.Ss

set_option maxRecDepth 100000 in
theorem clook_any (b bm bb bc : Nat) (C : Cl) (M : Mm) (w : World) (hc : ClAt w b C) (hm : MemAt w bm bb bc M) (n0 : b ≠ bm) (n1 : b ≠ bb) (n2 : b ≠ bc) (ok : C.Ok M.c.cap) (hl : C.looked < M.c.cap) :
    Calls Try.prog 101 #[.pointer (some ⟨b, 0, none⟩), .pointer (some ⟨bm, 0, none⟩)] w fun e w' => e = .returned (.tuple #[]) ∧ Fr [b, bb, bc] w w' ∧ MemAt w' bm bb bc (C.lookS M).2 ∧ ClAt w' b (C.lookS M).1 := by
  have hmc := hm.mem.cell
  have m0 := hm.ok.r.c0
  have m1 := hm.ok.r.c1
  have hab := C.atOf_bd M.c.cap ok.a0 ok.a1 m1
  have hw := Bk.access_old M.b 1 (M.c.cell (C.atOf M.c.cap) 0) 0 fLoad hm.ok.ws
  replace hw : 0 ≤ (M.meta_ (C.atOf M.c.cap)).2 ∧ (M.meta_ (C.atOf M.c.cap)).2 < 18446744073709551616 := hw
  have hw0 := hw.1
  have hw1 := hw.2
  clear hw
  by_cases hs : sState (M.meta_ (C.atOf M.c.cap)).2 = 0
  · have e : C.lookS M = (⟨.take, C.from_, C.atOf M.c.cap, C.looked, (M.meta_ (C.atOf M.c.cap)).2, C.got, C.next⟩, (M.meta_ (C.atOf M.c.cap)).1) := by unfold Cl.lookS Cl.lookC; rw [if_pos hs]
    have hd : ((sState (M.meta_ (C.atOf M.c.cap)).2 : Int) == 0) = true := by rw [beq_iff_eq]; exact hs
    rw [e]; clear e hs
    go_enter Try.func101, Try.ntmps101
    go_upto_region 1 with (go_at_call 115; refine (config_any M.c _).mono ?_; rintro e W1 ⟨rfl, f1⟩)
    have hc1 := Blk.fr0 hc f1
    have hm1 := hm.fr0 f1
    go_upto_region 2 with (go_at_call 148; refine (cbegin_any b C M.c.cap _ hc1).mono ?_; rintro e W2 ⟨rfl, f2, hc2⟩)
    have hm2 := hm1.fr f2 (by simpa using n0.symm) (by simpa using n1.symm) (by simpa using n2.symm)
    replace hc2 : ClAt W2 b ⟨C.st, C.from_, C.atOf M.c.cap, C.looked, C.word, C.got, C.next⟩ := hc2
    have hc2c := Blk.cell hc2
    clear hmc
    go_upto_region 3 with (go_at_call 29; refine (meta2_any bm bb bc M (C.atOf M.c.cap) _ hm2).mono ?_; rintro e W3 ⟨rfl, f3, hm3⟩; have hc3 : ClAt W3 b _ := Blk.fr hc2 f3 (by simp [n1, n2]); have hc3c := Blk.cell hc3; have hc3f := Blk.frozen hc3)
    have F3 : Fr [b, bb, bc] w W3 := (f1.nil.trans (f2.mono (by simp))).trans (f3.mono (by simp))
    refine name_world fun W4 hW4 => ?_
    have hc4 := (by rw [← hW4]; (repeat (first | with_reducible apply Blk.drew | with_reducible apply Blk.setCell | (with_reducible apply Blk.setCell_ne; rotate_left; (simp; omega)) | with_reducible apply Blk.alloc | exact hc3)) : Blk W4 b _ 150); simp only [List.setIfInBounds_toArray, List.set_cons_succ, List.set_cons_zero] at hc4
    have f34 : Fr [b] W3 W4 := by rw [← hW4]; (repeat (first | with_reducible assumption | with_reducible exact Fr.refl _ _ | (with_reducible refine Fr.setM ?_ ?hm _; case hm => (simp; done)) | with_reducible refine Fr.drew ?_ | with_reducible refine Fr.alloc ?_ _ | (with_reducible refine Fr.setN ?_ ?hn _; case hn => omega) | with_reducible exact Fr.nil (by with_reducible assumption)))
    have hm4 : MemAt W4 bm bb bc _ := hm3.fr f34 (by simpa using n0.symm) (by simpa using n1.symm) (by simpa using n2.symm)
    have F4 : Fr [b, bb, bc] w W4 := F3.trans (f34.mono (by simp))
    clear hc2c hc3c hc3f hc3 hc2 f3 f2 hc1 hW4
    have hc4c := Blk.cell hc4
    have hc4f := Blk.frozen hc4
    go_wp2_with ((go_at_call 31; refine (state_any _ _ hw0 hw1).mono ?_; rintro e w1 ⟨rfl, rfl⟩))
    refine name_post (fun W8 hW8 => ?_)
    have hB8 := (by rw [← hW8]; (repeat (first | with_reducible apply Blk.drew | with_reducible apply Blk.setCell | (with_reducible apply Blk.setCell_ne; rotate_left; (simp; omega)) | with_reducible apply Blk.alloc | exact hc4)) : Blk W8 b _ 150); simp only [List.setIfInBounds_toArray, List.set_cons_succ, List.set_cons_zero] at hB8
    have F8 : Fr [b] W4 W8 := by rw [← hW8]; (repeat (first | with_reducible assumption | with_reducible exact Fr.refl _ _ | (with_reducible refine Fr.setM ?_ ?hm _; case hm => (simp; done)) | with_reducible refine Fr.drew ?_ | with_reducible refine Fr.alloc ?_ _ | (with_reducible refine Fr.setN ?_ ?hn _; case hn => omega) | with_reducible exact Fr.nil (by with_reducible assumption)))
    clear hW8
    (first | go_end0 | (refine bodyPost_ret (results_none rfl _ _ _) rfl ?_))
    exact ⟨rfl, F4.trans (F8.mono (by simp)), hm4.fr F8 (by simpa using n0.symm) (by simpa using n1.symm) (by simpa using n2.symm), hB8⟩
  · have e : C.lookS M = (Cl.goes ⟨C.st, C.from_, C.atOf M.c.cap, C.looked, (M.meta_ (C.atOf M.c.cap)).2, C.got, C.next⟩ M.c.cap, (M.meta_ (C.atOf M.c.cap)).1) := by unfold Cl.lookS Cl.lookC; rw [if_neg hs]
    have hd : ((sState (M.meta_ (C.atOf M.c.cap)).2 : Int) == 0) = false := by rw [beq_eq_false_iff_ne]; exact hs
    rw [e]; clear e hs
    have l0 := ok.l0
    go_enter Try.func101, Try.ntmps101
    go_upto_region 1 with (go_at_call 115; refine (config_any M.c _).mono ?_; rintro e W1 ⟨rfl, f1⟩)
    have hc1 := Blk.fr0 hc f1
    have hm1 := hm.fr0 f1
    go_upto_region 2 with (go_at_call 148; refine (cbegin_any b C M.c.cap _ hc1).mono ?_; rintro e W2 ⟨rfl, f2, hc2⟩)
    have hm2 := hm1.fr f2 (by simpa using n0.symm) (by simpa using n1.symm) (by simpa using n2.symm)
    replace hc2 : ClAt W2 b ⟨C.st, C.from_, C.atOf M.c.cap, C.looked, C.word, C.got, C.next⟩ := hc2
    have hc2c := Blk.cell hc2
    clear hmc
    go_upto_region 3 with (go_at_call 29; refine (meta2_any bm bb bc M (C.atOf M.c.cap) _ hm2).mono ?_; rintro e W3 ⟨rfl, f3, hm3⟩; have hc3 : ClAt W3 b _ := Blk.fr hc2 f3 (by simp [n1, n2]); have hc3c := Blk.cell hc3; have hc3f := Blk.frozen hc3)
    have F3 : Fr [b, bb, bc] w W3 := (f1.nil.trans (f2.mono (by simp))).trans (f3.mono (by simp))
    refine name_world fun W4 hW4 => ?_
    have hc4 := (by rw [← hW4]; (repeat (first | with_reducible apply Blk.drew | with_reducible apply Blk.setCell | (with_reducible apply Blk.setCell_ne; rotate_left; (simp; omega)) | with_reducible apply Blk.alloc | exact hc3)) : Blk W4 b _ 150); simp only [List.setIfInBounds_toArray, List.set_cons_succ, List.set_cons_zero] at hc4
    have f34 : Fr [b] W3 W4 := by rw [← hW4]; (repeat (first | with_reducible assumption | with_reducible exact Fr.refl _ _ | (with_reducible refine Fr.setM ?_ ?hm _; case hm => (simp; done)) | with_reducible refine Fr.drew ?_ | with_reducible refine Fr.alloc ?_ _ | (with_reducible refine Fr.setN ?_ ?hn _; case hn => omega) | with_reducible exact Fr.nil (by with_reducible assumption)))
    have hm4 : MemAt W4 bm bb bc _ := hm3.fr f34 (by simpa using n0.symm) (by simpa using n1.symm) (by simpa using n2.symm)
    have F4 : Fr [b, bb, bc] w W4 := F3.trans (f34.mono (by simp))
    clear hc2c hc3c hc3f hc3 hc2 f3 f2 hc1 hW4
    have hc4c := Blk.cell hc4
    have hc4f := Blk.frozen hc4
    replace hc4 : ClAt W4 b ⟨C.st, C.from_, C.atOf M.c.cap, C.looked, (M.meta_ (C.atOf M.c.cap)).2, C.got, C.next⟩ := hc4
    have a0 : 0 ≤ C.atOf M.c.cap := by omega
    have a1 := hab.2
    go_wp2_with (first | (go_at_call 31; refine (state_any _ _ hw0 hw1).mono ?_; rintro e w1 ⟨rfl, rfl⟩) | (go_at_call 150; refine (cgoes_any b _ M.c.cap _ hc4 a0 a1 l0 hl m0 m1).mono ?_; rintro e W5 ⟨rfl, f5, hc5⟩))
    (first | go_end0 | (refine bodyPost_ret (results_none rfl _ _ _) rfl ?_))
    exact ⟨rfl, F4.trans (f5.mono (by simp)), hm4.fr f5 (by simpa using n0.symm) (by simpa using n1.symm) (by simpa using n2.symm), hc5⟩

set_option maxRecDepth 100000 in
theorem ctake_any (b bm bb bc : Nat) (C : Cl) (M : Mm) (w : World) (hc : ClAt w b C) (hm : MemAt w bm bb bc M) (n0 : b ≠ bm) (n1 : b ≠ bb) (n2 : b ≠ bc) (ok : C.Ok M.c.cap) (hl : C.looked < M.c.cap) :
    Calls Try.prog 149 #[.pointer (some ⟨b, 0, none⟩), .pointer (some ⟨bm, 0, none⟩)] w fun e w' => e = .returned (.tuple #[]) ∧ Fr [b, bb, bc] w w' ∧ MemAt w' bm bb bc (C.takeS M).2 ∧ ClAt w' b (C.takeS M).1 := by
  have m0 := hm.ok.r.c0
  have m1 := hm.ok.r.c1
  have a0 := ok.a0
  have a1 := ok.a1
  have l0 := ok.l0
  have wd0 := ok.w0
  have wd1 := ok.w1
  have g := sGen_bd C.word wd0
  have g0 := g.1
  have g1 := g.2
  clear g
  have hM : 0 ≤ sMeta 1 (sGen C.word) ∧ sMeta 1 (sGen C.word) < 18446744073709551616 := by unfold sMeta; omega
  have hM0 := hM.1
  have hM1 := hM.2
  clear hM
  have hr0 : 0 ≤ C.at_ % M.c.cap := Int.emod_nonneg C.at_ (b := M.c.cap) (by omega)
  have hr1 : C.at_ % M.c.cap < M.c.cap := Int.emod_lt_of_pos C.at_ (b := M.c.cap) (by omega)
  have hmc : ∀ w', Fr [] w w' → ∀ i, w'.cell? ⟨bm, i, none⟩ = _ := fun w' h i => (hm.mem.fr0 h).cell i
  have hcc : ∀ w', Fr [] w w' → ∀ i, w'.cell? ⟨b, i, none⟩ = _ := fun w' h i => (Blk.fr0 hc h).cell i
  have hrf := Fr.refl [] w
  cases hr : (M.take C.at_ C.word (sMeta 1 (sGen C.word))).2
  · have e : C.takeS M = (C.goes M.c.cap, (M.take C.at_ C.word (sMeta 1 (sGen C.word))).1) := by unfold Cl.takeS Cl.takeC; rw [hr]; rfl
    rw [e]; clear e
    go_enter Try.func149, Try.ntmps149
    go_wp2_with fail
    go_region_held3 (fun w' => Fr [] w w') (repeat (first | assumption | exact Fr.refl _ _ | refine Fr.drew ?_ | refine Fr.set1 ?_ _ | refine Fr.alloc ?_ _ | refine Fr.drewN ?_ _ | exact Fr.nil (by assumption))) (first | (go_at_call 115; refine (config_any M.c _).mono ?_; rintro e w1 ⟨rfl, hf⟩; replace hf : Fr [] w w1 := Fr.trans (by (first | assumption | exact Fr.refl _ _ | exact (Fr.refl _ _).drew | exact Fr.drew (by assumption))) hf) | (go_at_call 34; refine (sgen_any C.word _ wd0 wd1).mono ?_; rintro e w1 ⟨rfl, rfl⟩))
    have f1 := hf
    have hc1 := Blk.fr0 hc f1
    have hm1 := hm.fr0 f1
    go_upto_region 2 with (go_at_call 110; refine (meta_any 1 (sGen C.word) _ (by omega) (by omega) g0 g1).mono ?_; rintro e W2 ⟨rfl, f2⟩)
    have hc2 := Blk.fr0 hc1 f2
    have hm2 := hm1.fr0 f2
    have hcc2 : ∀ w', Fr [bb, bc] W2 w' → ∀ i, w'.cell? ⟨b, i, none⟩ = _ := fun w' h i => (Blk.fr hc2 h (by simp [n1, n2])).cell i
    have hrf2 := Fr.refl [bb, bc] W2
    clear hmc hcc hrf
    go_region_held3 (fun w' => Fr [bb, bc] W2 w') (repeat (first | assumption | exact Fr.refl _ _ | refine Fr.drew ?_ | refine Fr.set1 ?_ _ | refine Fr.alloc ?_ _ | refine Fr.drewN ?_ _ | exact Fr.nil (by assumption))) (first | (go_at_call 178; refine (take_any bm bb bc M C.at_ C.word (sMeta 1 (sGen C.word)) _ (hm2.fr0 (by (first | assumption | exact Fr.refl _ _ | exact (Fr.refl _ _).drew | exact Fr.drew (by assumption)))) hM0 hM1).mono ?_; rintro e W3 ⟨rfl, f3, hm3⟩; replace f3 : Fr [bb, bc] W2 W3 := Fr.trans (Fr.nil (by (first | assumption | exact Fr.refl _ _ | exact (Fr.refl _ _).drew | exact Fr.drew (by assumption)))) f3))
    have hc3 : ClAt W3 b C := Blk.fr hc2 f3 (by simp [n1, n2])
    have hc3c := Blk.cell hc3
    have hc3f := Blk.frozen hc3
    have F3 : Fr [b, bb, bc] w W3 := (f1.trans f2).nil.trans (f3.mono (by simp))
    go_wp2_with (go_at_call 150; refine (cgoes_any b _ M.c.cap _ hc3 a0 a1 l0 hl m0 m1).mono ?_; rintro e W5 ⟨rfl, f5, hc5⟩)
    (first | go_end0 | (refine bodyPost_ret (results_none rfl _ _ _) rfl ?_))
    exact ⟨rfl, F3.trans (f5.mono (by simp)), hm3.fr f5 (by simpa using n0.symm) (by simpa using n1.symm) (by simpa using n2.symm), hc5⟩
  · have e : C.takeS M = (⟨.done, C.from_, C.at_, C.looked, C.word, packW C.at_ (sGen C.word), C.at_ % M.c.cap + 1⟩, (M.take C.at_ C.word (sMeta 1 (sGen C.word))).1) := by unfold Cl.takeS Cl.takeC; rw [hr]; rfl
    rw [e]; clear e
    go_enter Try.func149, Try.ntmps149
    go_wp2_with fail
    go_region_held3 (fun w' => Fr [] w w') (repeat (first | assumption | exact Fr.refl _ _ | refine Fr.drew ?_ | refine Fr.set1 ?_ _ | refine Fr.alloc ?_ _ | refine Fr.drewN ?_ _ | exact Fr.nil (by assumption))) (first | (go_at_call 115; refine (config_any M.c _).mono ?_; rintro e w1 ⟨rfl, hf⟩; replace hf : Fr [] w w1 := Fr.trans (by (first | assumption | exact Fr.refl _ _ | exact (Fr.refl _ _).drew | exact Fr.drew (by assumption))) hf) | (go_at_call 34; refine (sgen_any C.word _ wd0 wd1).mono ?_; rintro e w1 ⟨rfl, rfl⟩))
    have f1 := hf
    have hc1 := Blk.fr0 hc f1
    have hm1 := hm.fr0 f1
    go_upto_region 2 with (go_at_call 110; refine (meta_any 1 (sGen C.word) _ (by omega) (by omega) g0 g1).mono ?_; rintro e W2 ⟨rfl, f2⟩)
    have hc2 := Blk.fr0 hc1 f2
    have hm2 := hm1.fr0 f2
    have hcc2 : ∀ w', Fr [bb, bc] W2 w' → ∀ i, w'.cell? ⟨b, i, none⟩ = _ := fun w' h i => (Blk.fr hc2 h (by simp [n1, n2])).cell i
    have hrf2 := Fr.refl [bb, bc] W2
    clear hmc hcc hrf
    go_region_held3 (fun w' => Fr [bb, bc] W2 w') (repeat (first | assumption | exact Fr.refl _ _ | refine Fr.drew ?_ | refine Fr.set1 ?_ _ | refine Fr.alloc ?_ _ | refine Fr.drewN ?_ _ | exact Fr.nil (by assumption))) (first | (go_at_call 178; refine (take_any bm bb bc M C.at_ C.word (sMeta 1 (sGen C.word)) _ (hm2.fr0 (by (first | assumption | exact Fr.refl _ _ | exact (Fr.refl _ _).drew | exact Fr.drew (by assumption)))) hM0 hM1).mono ?_; rintro e W3 ⟨rfl, f3, hm3⟩; replace f3 : Fr [bb, bc] W2 W3 := Fr.trans (Fr.nil (by (first | assumption | exact Fr.refl _ _ | exact (Fr.refl _ _).drew | exact Fr.drew (by assumption)))) f3))
    have hc3 : ClAt W3 b C := Blk.fr hc2 f3 (by simp [n1, n2])
    have hc3c := Blk.cell hc3
    have hc3f := Blk.frozen hc3
    have F3 : Fr [b, bb, bc] w W3 := (f1.trans f2).nil.trans (f3.mono (by simp))
    have hF : ∀ w', Fr [] W3 w' → (∀ i, w'.cell? ⟨b, i, none⟩ = _) ∧ ∀ i, w'.frozen? ⟨b, i, none⟩ = false := fun w' h => ⟨(Blk.fr0 hc3 h).cell, (Blk.fr0 hc3 h).frozen⟩
    go_upto_region 5 with (go_at_call 122; refine (pack_any C.at_ (sGen C.word) _ a0 (by omega) g0 g1).mono ?_; rintro e W4 ⟨rfl, f4⟩; have hc4 := Blk.fr0 hc3 f4; have hc4c := Blk.cell hc4; have hc4f := Blk.frozen hc4)
    go_wp2_with fail
    refine name_post (fun W8 hW8 => ?_)
    have hB8 := (by rw [← hW8]; (repeat (first | with_reducible apply Blk.drew | with_reducible apply Blk.setCell | (with_reducible apply Blk.setCell_ne; rotate_left; (simp; omega)) | with_reducible apply Blk.alloc | exact hc4)) : Blk W8 b _ 150); simp only [List.setIfInBounds_toArray, List.set_cons_succ, List.set_cons_zero] at hB8
    have F8 : Fr [b] W4 W8 := by rw [← hW8]; (repeat (first | with_reducible assumption | with_reducible exact Fr.refl _ _ | (with_reducible refine Fr.setM ?_ ?hm _; case hm => (simp; done)) | with_reducible refine Fr.drew ?_ | with_reducible refine Fr.alloc ?_ _ | (with_reducible refine Fr.setN ?_ ?hn _; case hn => omega) | with_reducible exact Fr.nil (by with_reducible assumption)))
    clear hW8
    (first | go_end0 | (refine bodyPost_ret (results_none rfl _ _ _) rfl ?_))
    exact ⟨rfl, (F3.trans f4.nil).trans (F8.mono (by simp)), (hm3.fr0 f4).fr F8 (by simpa using n0.symm) (by simpa using n1.symm) (by simpa using n2.symm), hB8⟩


set_option maxRecDepth 100000 in
theorem cstep_any (b bm bb bc : Nat) (C : Cl) (M : Mm) (w : World) (hc : ClAt w b C) (hm : MemAt w bm bb bc M) (n0 : b ≠ bm) (n1 : b ≠ bb) (n2 : b ≠ bc) (ok : C.Ok M.c.cap) :
    Calls Try.prog 30 #[.pointer (some ⟨b, 0, none⟩), .pointer (some ⟨bm, 0, none⟩)] w fun e w' => e = .returned (.tuple #[]) ∧ Fr [b, bb, bc] w w' ∧ MemAt w' bm bb bc (C.step M).2 ∧ ClAt w' b (C.step M).1 := by
  have hcc := Blk.cell hc
  have hl := ok.l1
  cases hs : C.st
  · have e : C.step M = (C, M) := by unfold Cl.step; rw [hs]
    rw [e]; clear e
    rw [hs] at hcc; simp only [clV] at hcc; clear hs hl
    go_enter Try.func30, Try.ntmps30
    go_wp2_with fail
    (first | go_end0 | (refine bodyPost_ret (results_none rfl _ _ _) rfl ?_))
    exact ⟨rfl, Fr.refl _ _, hm, hc⟩
  · have e : C.step M = C.lookS M := by unfold Cl.step; rw [hs]
    rw [e]; clear e
    replace hl := hl (by rw [hs]; intro h; cases h)
    rw [hs] at hcc; simp only [clV] at hcc; clear hs
    go_enter Try.func30, Try.ntmps30
    go_wp2_with (go_at_call 101; refine (clook_any b bm bb bc C M _ hc hm n0 n1 n2 ok hl).mono ?_; rintro e W1 ⟨rfl, f1, hm1, hc1⟩)
    (first | go_end0 | (refine bodyPost_ret (results_none rfl _ _ _) rfl ?_))
    exact ⟨rfl, f1, hm1, hc1⟩
  · have e : C.step M = C.takeS M := by unfold Cl.step; rw [hs]
    rw [e]; clear e
    replace hl := hl (by rw [hs]; intro h; cases h)
    rw [hs] at hcc; simp only [clV] at hcc; clear hs
    go_enter Try.func30, Try.ntmps30
    go_wp2_with (go_at_call 149; refine (ctake_any b bm bb bc C M _ hc hm n0 n1 n2 ok hl).mono ?_; rintro e W1 ⟨rfl, f1, hm1, hc1⟩)
    (first | go_end0 | (refine bodyPost_ret (results_none rfl _ _ _) rfl ?_))
    exact ⟨rfl, f1, hm1, hc1⟩
end Go.Proofs.Ytaddjigmdeejlaa
