/- ClaimAlone, the walk: no slot is free. -/
import Derived.Test.YtaddjigmdeejlaaLawNineb
namespace Go.Proofs.Ytaddjigmdeejlaa
open Go.RowKit Go.Ss

set_option maxRecDepth 100000 in
set_option maxHeartbeats 2000000 in
theorem claimAlone_none (c : Cfg) (hc : c.R) (l : List Int) (ad : Addr) (cap : Nat) (f : Int) (n : Nat) (hn : c.cap = n) (w : World) (hs : SlI .u64 w (.slice (some ad) l.length cap) l) (hl : (l.length : Int) = c.len) (h4 : l.length ≤ 400) (hw : Ws l)
    (halone : (Cl.runs (n + 1) (Cl.new f, ⟨c, ⟨l, 0, Ss.Acc.zero⟩⟩)).1.st = .done ∧ (Cl.runs (n + 1) (Cl.new f, ⟨c, ⟨l, 0, Ss.Acc.zero⟩⟩)).2.c = c ∧ (Cl.runs (n + 1) (Cl.new f, ⟨c, ⟨l, 0, Ss.Acc.zero⟩⟩)).1.got = 0 ∧ (Cl.runs (n + 1) (Cl.new f, ⟨c, ⟨l, 0, Ss.Acc.zero⟩⟩)).2.b.cells = l ∧ ∀ i, 1 ≤ i → i ≤ c.cap → sState (getI l (c.cell i 0)) ≠ 0) :
    Calls Try.prog 3 #[.agg #[.int .i64 c.threads, .int .i64 c.slots, .int .i64 c.cap, .int .i64 c.height, .int .i64 c.keep, .int .i64 c.every, .int .i64 c.last], .slice (some ad) l.length cap, .int .i64 f] w fun e w' => e = .returned (.bool true) ∧ Fr [] w w' := by
  obtain ⟨W0, hW0⟩ : ∃ W, w.alloc (.cells #[.int .i64 c.threads, .int .i64 c.slots, .int .i64 c.cap, .int .i64 c.height, .int .i64 c.keep, .int .i64 c.every, .int .i64 c.last] 23) = W := ⟨_, rfl⟩
  have hB0 : Blk W0 w.heap.size #[.int .i64 c.threads, .int .i64 c.slots, .int .i64 c.cap, .int .i64 c.height, .int .i64 c.keep, .int .i64 c.every, .int .i64 c.last] 23 := hW0 ▸ Blk.new _ _ _
  have F0 : Fr [] w W0 := hW0 ▸ (Fr.refl _ _).alloc _
  have hBc0 : ∀ w', Fr [] W0 w' → ∀ i, w'.cell? ⟨w.heap.size, i, none⟩ = _ := fun w' h i => (hB0.fr0 h).cell i
  have hBr0 := Fr.refl [] W0
  have hs0 := SlI.fr hs F0 (by simp)
  have l0 := hB0.lt
  have c1 := hc.c0
  have c64 := hc.c1
  have HL := Lib.hid hl; clear hl
  have HS := Lib.hid hs; clear hs
  have HN := Lib.hid hn; clear hn
  have HA := Lib.hid halone; clear halone
  go_enter Try.func3, Try.ntmps3
  go_upto_region 2 with (go_at_call 22; refine (lawOf_ok c hc l ad cap _ hs0 HL.out h4 hw).mono ?_; rintro e W1 ⟨bm, bb, bc, v1, rfl, f1, q1, q2, q3, hm1, hs1⟩; obtain ⟨a1, cap1, rfl⟩ := SlP.form' hs1)
  refine name_world fun W2 hW2 => ?_
  have f12 : Fr [] W1 W2 := by rw [← hW2]; (repeat (first | with_reducible assumption | with_reducible exact Fr.refl _ _ | (with_reducible refine Fr.setM ?_ ?hm _; case hm => (simp; done)) | with_reducible refine Fr.drew ?_ | with_reducible refine Fr.alloc ?_ _ | (with_reducible refine Fr.setN ?_ ?hn _; case hn => omega) | with_reducible exact Fr.nil (by with_reducible assumption)))
  have hbp : Blk W2 W1.heap.size #[.pointer (some ⟨bm, 0, none⟩)] 25 := by rw [← hW2]; exact (Blk.new _ _ _).alloc _
  clear hW2
  have hm2 := hm1.fr0 f12
  have k1 := hm1.mem.lt
  have k2 := hm1.bank.bank.lt
  have k3 := hm1.bank.cells.lt
  have z12 := f12.size
  have z01 := f1.size
  have lp := hbp.lt
  generalize hp : W1.heap.size = bp at *
  go_upto_region 5 with (go_at_call 23; refine (claimNew_any f _).mono ?_; rintro e W3 ⟨ba, rfl, f3, q4, ha3⟩)
  have hm3 : MemAt W3 bm bb bc ⟨c, ⟨l, 0, Ss.Acc.zero⟩⟩ := hm2.fr0 f3
  have hbp3 := hbp.fr0 f3
  have hbx3 := ((hB0.fr0 f1).fr0 f12).fr0 f3
  have la := Blk.lt ha3
  go_upto_region 7 with (go_at_call 25; refine (metas_any w.heap.size bp bm bb bc ⟨c, ⟨l, 0, Ss.Acc.zero⟩⟩ n HN.out _ hbx3 hbp3 hm3).mono ?_; rintro e W4 ⟨v4, rfl, f4, hs4⟩)
  replace hs4 : SlP (fun b => W3.heap.size ≤ b) W4 v4 (metasOf c l n) := hs4
  have hm4 := hm3.fr0 f4
  have hbp4 := hbp3.fr0 f4
  have hbx4 := hbx3.fr0 f4
  have ha4 : ClAt W4 ba (Cl.new f) := Blk.fr0 ha3 f4
  have n0 : ba ≠ bm := by omega
  have n1 : ba ≠ bb := by omega
  have n2 : ba ≠ bc := by omega
  have hbp4c := hbp4.cell
  have hbx4c := hbx4.cell
  have hcapw : IntKind.i64.wrap (c.cap + 1) = c.cap + 1 := IntWalk.i64_in _ (by omega)
  go_wp2_with fail
  clear hbp4c hbx4c
  have lx : w.heap.size < bp := by have := F0.size; omega
  have hbpw : ∀ w', Fr [ba, bb, bc] W4 w' → ∀ i, w'.cell? ⟨bp, i, none⟩ = _ := fun w' h i => (hbp4.fr h (by simp; omega)).cell i
  go_loopw [43] (fun i wr => LoopR W4 ba bm bb bc (Cl.new f, ⟨c, ⟨l, 0, Ss.Acc.zero⟩⟩) (n + 1) i wr) (fun i _ => n + 1 - (intOf i).toNat)
  case atStart => exact ⟨0, Nat.zero_le _, rfl, hm4, ha4, Cl.new_ok f c.cap c1, Fr.refl _ _⟩
  case round =>
    obtain ⟨k, hk, rfl, hmr, har, hok, hFr⟩ := hrel
    by_cases hlt : k < n + 1
    · have hlt' : (k : Int) < c.cap + 1 := by have := HN.out; omega
      have hbr := hbpw wr hFr
      have hok' := Cl.step_ok hmr.ok hok
      have hcc := Cl.step_c (Cl.runs k (Cl.new f, ⟨c, ⟨l, 0, Ss.Acc.zero⟩⟩)).1 (Cl.runs k (Cl.new f, ⟨c, ⟨l, 0, Ss.Acc.zero⟩⟩)).2
      have HCC := Lib.hid hcc; clear hcc
      have HOK := Lib.hid hok'; clear hok'
      go_wp2_with (go_at_call 30; refine (cstep_any ba bm bb bc _ _ _ har hmr n0 n1 n2 hok).mono ?_; rintro e W5 ⟨rfl, f5, hm5, ha5⟩)
      go_roundw
      case rel => exact ⟨k + 1, hlt, by simp, hm5, ha5, by rw [Cl.runs, HCC.out]; exact HOK.out, hFr.trans f5⟩
      case measure => simp [intOf]; omega
    · have hkn : k = n + 1 := by omega
      subst hkn
      have hlt' : ¬ (((n + 1 : Nat) : Int) < c.cap + 1) := by have := HN.out; omega
      obtain ⟨hdone, hcfg, hcase⟩ := HA.out
      generalize hs9 : Cl.runs (n + 1) (Cl.new f, ⟨c, ⟨l, 0, Ss.Acc.zero⟩⟩) = S at *
      clear hs9
      have hbp6 := hbp4.fr hFr (by simp; omega)
      have hbx6 := hbx4.fr hFr (by simp; omega)
      have hm6 : MemAt wr bm bb bc ⟨c, S.2.b⟩ := by rw [← hcfg]; exact hmr
      have hdb : S.1.st.isDone = true := by rw [hdone]; rfl
      have HDB := Lib.hid hdb
      clear hdone hdb hmr
      have hn1 : 1 ≤ n := by have := HN.out; omega
      have hn64 : n ≤ 64 := by have := HN.out; omega
      have hs6 := SlP.fr hs4 hFr (by simp; omega)
      go_upto_region 12 with (go_at_call 25; refine (metas_any w.heap.size bp bm bb bc ⟨c, S.2.b⟩ n HN.out _ hbx6 hbp6 hm6).mono ?_; rintro e W7 ⟨v7, rfl, f7, hs7⟩)
      replace hs7 : SlP (fun b => wr.heap.size ≤ b) W7 v7 (metasOf c S.2.b.cells n) := hs7
      have hs67 := SlP.fr0 hs6 f7
      obtain ⟨x4, cap4, hv4, hP4, hcell4⟩ := SlP.cells_ hs67 (by rw [metasOf_length]; exact hn1)
      obtain ⟨x7, cap7, hv7, hP7, hcell7⟩ := SlP.cells_ hs7 (by rw [metasOf_length]; exact hn1)
      rw [metasOf_length] at hv4 hv7 hcell4 hcell7
      subst hv4
      subst hv7
      have ha7 : ClAt W7 ba S.1 := Blk.fr0 har f7
      have hbx7 := (hbx6.fr0 f7)
      have FW : Fr [] w W7 := Fr.hide (F0.trans (f1.trans (f12.trans (f3.trans f4)))) (hFr.trans f7.nil) (by simp; omega)
      clear hs67 hs6 hs7 hs4 hbp6 hbx6 hbpw hbp4 hbx4 hbp3 hbx3 hbp
      obtain ⟨hg, hcl, hno⟩ := hcase
      rw [hcl] at hcell7
      have HNO := Lib.hid (frees_none c l n (fun i h0 h1 => hno i h0 (by have := HN.out; omega)))
      have HNS := Lib.hid hno; clear hno hcl
      have HG := Lib.hid hg; clear hg
      clear hm6 har
      go_upto_region 13 with fail
      go_wp2_with fail
      go_loopw [14, 15, 56] (fun f x i wr => ∃ k : Nat, k ≤ n ∧ i = .int .i64 k ∧ f = .int .i64 0 ∧ x = .int .i64 0 ∧ Fr [] W7 wr) (fun _ _ i _ => n - (intOf i).toNat)
      case atStart => exact ⟨0, Nat.zero_le _, rfl, rfl, rfl, Fr.refl _ _⟩
      case round =>
        obtain ⟨k, hk, rfl, rfl, rfl, hF⟩ := hrel
        by_cases hkl : k < n
        · have h4k : ∀ w', Fr [] wr w' → w'.cell? (x4.add k) = some (.int .u64 (getI l (c.cell ((k : Int) + 1) 0))) := fun w' h => by rw [hcell4 [] w' (hF.trans h) (by simp) k hkl, metasOf_get _ _ _ _ hkl]
          have h7k : ∀ w', Fr [] wr w' → w'.cell? (x7.add k) = some (.int .u64 (getI l (c.cell ((k : Int) + 1) 0))) := fun w' h => by rw [hcell7 [] w' (hF.trans h) (by simp) k hkl, metasOf_get _ _ _ _ hkl]
          have hx0 := (hw.getI (c.cell ((k : Int) + 1) 0)).1
          have hx1 := (hw.getI (c.cell ((k : Int) + 1) 0)).2
          have hst : ((sState (getI l (c.cell ((k : Int) + 1) 0)) : Int) == 0) = false := by
            rw [beq_eq_false_iff_ne]; exact HNS.out _ (by omega) (by have := HN.out; omega)
          have h4k0 := h4k wr (Fr.refl _ _)
          have hsum := IntWalk.i64_in ((k : Int) + 1) (by omega)
          have hRr := Fr.refl [] wr
          generalize getI l (c.cell ((k : Int) + 1) 0) = y at *
          go_upto_region 18 with (go_at_call 31; refine (state_any y _ hx0 hx1).mono ?_; rintro e w1 ⟨rfl, rfl⟩)
          go_region_held3 (fun w' => Fr [] wr w') (repeat (first | assumption | exact Fr.refl _ _ | refine Fr.drew ?_ | refine Fr.set1 ?_ _ | refine Fr.alloc ?_ _ | refine Fr.drewN ?_ _ | exact Fr.nil (by assumption))) (first | fail)
          go_wp2_with fail
          go_roundw
          case rel => exact ⟨k + 1, hkl, by simp, rfl, rfl, hF.drew⟩
          case measure => simp [intOf]; omega
        · have hkn : k = n := by omega
          subst hkn
          have hnn : ((k : Int) == c.cap) = true := by rw [beq_iff_eq]; exact HN.out.symm
          go_wp2_with (first | (go_at_call 24; refine (alive9 _).mono ?_; rintro e W9 ⟨rfl, f9⟩; have hb9 := (hbx7.fr0 (hF.trans f9)).cell; have ha9 : ClAt W9 ba S.1 := Blk.fr0 ha7 (hF.trans f9)) | (go_at_call 36; refine (cdone_any ba S.1 _ ha9).mono ?_; rintro e w9 ⟨rfl, rfl⟩; rw [HDB.out]) | (go_at_call 33; refine (cgot_any ba S.1 _ ha9).mono ?_; rintro e w9 ⟨rfl, rfl⟩; rw [HG.out]))
          go_ret
          exact ⟨rfl, FW.trans (hF.trans f9)⟩
end Go.Proofs.Ytaddjigmdeejlaa
