/- GuardStands, the walk: behind a publish its era stands in a reservation. -/
import Derived.Test.YtaddjigmdeejlaaLawTenb
namespace Go.Proofs.Ytaddjigmdeejlaa
open Go.RowKit Go.Ss

set_option maxRecDepth 100000 in
theorem guardStands_out (c : Cfg) (t : Int) (a : Option Addr) (n cap : Nat) (w : World) (h : ¬ c.R ∨ (c.R ∧ (t < 0 ∨ (0 ≤ t ∧ c.threads ≤ t) ∨ (0 ≤ t ∧ t < c.threads ∧ (40 : Int) < n)))) :
    Calls Try.prog 4 #[.agg #[.int .i64 c.threads, .int .i64 c.slots, .int .i64 c.cap, .int .i64 c.height, .int .i64 c.keep, .int .i64 c.every, .int .i64 c.last], .int .i64 t, .slice a n cap] w fun e w' => e = .returned (.bool true) ∧ Fr [] w w' := by
  obtain ⟨W0, hW0⟩ : ∃ W, w.alloc (.cells #[.int .i64 c.threads, .int .i64 c.slots, .int .i64 c.cap, .int .i64 c.height, .int .i64 c.keep, .int .i64 c.every, .int .i64 c.last] 23) = W := ⟨_, rfl⟩
  have hB0 : Blk W0 w.heap.size #[.int .i64 c.threads, .int .i64 c.slots, .int .i64 c.cap, .int .i64 c.height, .int .i64 c.keep, .int .i64 c.every, .int .i64 c.last] 23 := hW0 ▸ Blk.new _ _ _
  have F0 : Fr [] w W0 := hW0 ▸ (Fr.refl _ _).alloc _
  have hBc0 : ∀ w', Fr [] W0 w' → ∀ i, w'.cell? ⟨w.heap.size, i, none⟩ = _ := fun w' h i => (hB0.fr0 h).cell i
  have hBr0 := Fr.refl [] W0
  rcases h with hc | ⟨hc, h⟩
  · go_enter Try.func4, Try.ntmps4
    go_wp2_with (first | (go_at_call 37; refine (memNew_bad c hc _).mono ?_; rintro e w1 ⟨rfl, hf⟩; replace hf : Fr [] W0 w1 := Fr.trans (by (first | assumption | exact Fr.refl _ _ | exact (Fr.refl _ _).drew | exact Fr.drew (by assumption))) hf) | (go_at_call 38; refine (guardNew_any t _).mono ?_; rintro e w1 ⟨bg, rfl, hf, q4, hg2⟩; replace hf : Fr [] W0 w1 := Fr.trans (by (first | assumption | exact Fr.refl _ _ | exact (Fr.refl _ _).drew | exact Fr.drew (by assumption))) hf) | (go_at_call 39; refine (alive10 _).mono ?_; rintro e w1 ⟨rfl, hf⟩; replace hf : Fr [] W0 w1 := Fr.trans (by (first | assumption | exact Fr.refl _ _ | exact (Fr.refl _ _).drew | exact Fr.drew (by assumption))) hf))
    go_ret
    exact ⟨rfl, F0.trans hf⟩
  · rcases h with h | ⟨h0, h⟩ | ⟨h0, h1, h⟩
    all_goals
      go_enter Try.func4, Try.ntmps4
      go_wp2_with (first | (go_at_call 37; refine (memNew_any c hc _).mono ?_; rintro e w1 ⟨bm, bb, bc, rfl, hf, q1, q2, q3, hm1⟩; replace hf : Fr [] W0 w1 := Fr.trans (by (first | assumption | exact Fr.refl _ _ | exact (Fr.refl _ _).drew | exact Fr.drew (by assumption))) hf) | (go_at_call 38; refine (guardNew_any t _).mono ?_; rintro e w1 ⟨bg, rfl, hf, q4, hg2⟩; replace hf : Fr [] W0 w1 := Fr.trans (by (first | assumption | exact Fr.refl _ _ | exact (Fr.refl _ _).drew | exact Fr.drew (by assumption))) hf) | (go_at_call 39; refine (alive10 _).mono ?_; rintro e w1 ⟨rfl, hf⟩; replace hf : Fr [] W0 w1 := Fr.trans (by (first | assumption | exact Fr.refl _ _ | exact (Fr.refl _ _).drew | exact Fr.drew (by assumption))) hf))
      go_ret
      exact ⟨rfl, F0.trans hf⟩

theorem Fr.of_grown {w w' : World} {row : Option Nat} (g : w.grownBy w' row) : Fr row.toList w w' :=
  ⟨g.os, g.tape, g.output, g.size, fun k hk hn => g.block k hk (fun e => hn (by rw [← e]; simp))⟩
theorem not_row {base b : Nat} {row : Option Nat} (h : ∀ k, row = some k → base ≤ k) (hb : b < base) : b ∉ row.toList := by
  intro hx
  cases row with
  | none => simp at hx
  | some k => simp at hx; have := h k rfl; omega
theorem Gd.zero_ok (t : Int) : (⟨0, 0, t⟩ : Gd).Ok := ⟨Int.le_refl _, by show (0 : Int) ≤ 8; omega, Int.le_refl _, by show (0 : Int) < _; omega⟩
def LoopA (W : World) (bg bm bb bc base : Nat) (c : Cfg) (t : Int) (n : Nat) (v i : Value) (wr : World) : Prop :=
  ∃ (k : Nat) (G : Gd) (M : Mm) (s : List Int), k ≤ n ∧ i = .int .i64 k ∧ wr.ownsRow base 26 1 v s.length (s.map (.int .u64)) ∧ GInv c t G M s ∧ MemAt wr bm bb bc M ∧ GdAt wr bg G ∧ G.Ok ∧ Fr [bg, bb, bc] W wr
def LoopB (W : World) (bm bb bc : Nat) (M : Mm) (n : Nat) (i : Value) (wr : World) : Prop :=
  ∃ (j : Nat) (M' : Mm), j ≤ n ∧ i = .int .i64 j ∧ M'.c = M.c ∧ M'.b.cells = M.b.cells ∧ MemAt wr bm bb bc M' ∧ Fr [bb, bc] W wr
def LoopC (W : World) (bm bb bc : Nat) (c : Cfg) (M : Mm) (t x : Int) (n : Nat) (i st : Value) (wr : World) : Prop :=
  ∃ (r : Nat) (M' : Mm), r ≤ n ∧ i = .int .i64 r ∧ st = .bool (anyB c M.b.cells t x r) ∧ M'.c = M.c ∧ M'.b.cells = M.b.cells ∧ MemAt wr bm bb bc M' ∧ Fr [bb, bc] W wr

set_option maxRecDepth 100000 in
set_option maxHeartbeats 1000000 in
theorem guardStands_in (c : Cfg) (hc : c.R) (t : Int) (v : Value) (l : List Int) (w : World) (hv : SlI .u64 w v l) (hl : Ws l) (t0 : 0 ≤ t) (t1 : t < c.threads) (hn : l.length ≤ 40) :
    Calls Try.prog 4 #[.agg #[.int .i64 c.threads, .int .i64 c.slots, .int .i64 c.cap, .int .i64 c.height, .int .i64 c.keep, .int .i64 c.every, .int .i64 c.last], .int .i64 t, v] w fun e w' => e = .returned (.bool true) ∧ Fr [] w w' := by
  obtain ⟨W0, hW0⟩ : ∃ W, w.alloc (.cells #[.int .i64 c.threads, .int .i64 c.slots, .int .i64 c.cap, .int .i64 c.height, .int .i64 c.keep, .int .i64 c.every, .int .i64 c.last] 23) = W := ⟨_, rfl⟩
  have hB0 : Blk W0 w.heap.size #[.int .i64 c.threads, .int .i64 c.slots, .int .i64 c.cap, .int .i64 c.height, .int .i64 c.keep, .int .i64 c.every, .int .i64 c.last] 23 := hW0 ▸ Blk.new _ _ _
  have F0 : Fr [] w W0 := hW0 ▸ (Fr.refl _ _).alloc _
  have hBc0 : ∀ w', Fr [] W0 w' → ∀ i, w'.cell? ⟨w.heap.size, i, none⟩ = _ := fun w' h i => (hB0.fr0 h).cell i
  have hBr0 := Fr.refl [] W0
  have hv0 := hv
  obtain ⟨a, cap, rfl, hcap, hcapm, hnone, hsome⟩ := hv
  have hn' : ¬ (40 : Int) < (l.length : Int) := by omega
  go_enter Try.func4, Try.ntmps4
  go_upto_region 2 with (go_at_call 37; refine (memNew_any c hc _).mono ?_; rintro e W1 ⟨bm, bb, bc, rfl, f1, q1, q2, q3, hm1⟩)
  go_upto_region 3 with (go_at_call 38; refine (guardNew_any t _).mono ?_; rintro e W2 ⟨bg, rfl, f2, q4, hg2⟩)
  have hm2 := hm1.fr0 f2
  have l1 := hm1.mem.lt
  have l2 := hm1.bank.bank.lt
  have l3 := hm1.bank.cells.lt
  have l4 := Blk.lt hg2
  have n0 : bg ≠ bm := by omega
  have n1 : bg ≠ bb := by omega
  have n2 : bg ≠ bc := by omega
  have l0 := hB0.lt
  have hbox : ∀ w', Fr [bg, bb, bc] W2 w' → ∀ i, w'.cell? ⟨w.heap.size, i, none⟩ = _ := fun w' h i => (((hB0.fr0 f1).fr0 f2).fr h (by simp; omega)).cell i
  have hF2 := Fr.refl [bg, bb, bc] W2
  go_upto_region 6 with fail
  go_wp2_with fail
  obtain ⟨i0, hi, hz0, hz1, hz2⟩ := info_parts info_word
  obtain ⟨n, hnn⟩ : ∃ n : Nat, c.slots = n := ⟨c.slots.toNat, by have := hc.s0; omega⟩
  have HN := Lib.hid hnn; clear hnn
  have hs1 := hc.s0
  have hs8 := hc.s1
  go_loopw [10, 56] (fun v i wr => LoopA W2 bg bm bb bc W2.heap.size c t l.length v i wr) (fun _ i _ => l.length - (intOf i).toNat)
  case atStart => exact ⟨0, ⟨0, 0, t⟩, _, [], Nat.zero_le _, rfl, ⟨rfl, .inl ⟨rfl, rfl⟩⟩, GInv.start c hc t _ rfl, hm2, hg2, Gd.zero_ok t, Fr.refl _ _⟩
  case round =>
    obtain ⟨k, G, M, s, hk, rfl, hown, hG, hmr, hgr, hok, hFr⟩ := hrel
    by_cases hlt : k < l.length
    · obtain ⟨x, rfl⟩ : ∃ x, a = some x := by
        cases a with
        | none => have := (hnone rfl).1; subst this; cases hlt
        | some x => exact ⟨x, rfl⟩
      have fw : Fr [bg, bb, bc] w wr := ((F0.trans f1).trans f2).nil.trans hFr
      have z0 := F0.size
      have hvr : SlI .u64 wr (.slice (some x) l.length cap) l := hv0.fr fw (by intro b hb; simp at hb; omega)
      have hera : wr.cell? (x.add k) = some (.int .u64 (l.getD k 0)) := by
        obtain ⟨a', cap', he, _, _, _, h4⟩ := hvr
        cases he; exact (h4 x rfl).2 k hlt
      have hw := hl (l.getD k 0) (by rw [List.getD_eq_getElem?_getD, List.getElem?_eq_getElem hlt]; exact List.getElem_mem hlt)
      have hnext := hG.next hmr.ok t0 t1 (l.getD k 0)
      have hok' := Gd.publish_ok hok (M := M) (by have := hG.mc; rw [this]; exact hs8) (l.getD k 0) hw.1 hw.2
      have hw0 := hw.1
      have hw1 := hw.2
      generalize hera' : l.getD k 0 = era at *
      have HE := Lib.hid hera'; clear hera'
      have hlt' : (k : Int) < (l.length : Int) := by omega
      have HG := Lib.hid hG; clear hG
      have HX := Lib.hid hnext; clear hnext
      have HV := Lib.hid hvr; clear hvr
      have HV0 := Lib.hid hv0; clear hv0
      have HS := Lib.hid hsome; clear hsome
      have HNo := Lib.hid hnone; clear hnone
      go_upto_if 64 with (first | (go_at_call 40; refine (publish_any bg bm bb bc G M era _ hgr hmr n0 n1 n2 hok hw0 hw1).mono ?_; rintro e W3 ⟨rfl, f3, hm3, hg3⟩))
      have hown3 := ownsRow_fr hown f3 (by intro b hb; simp at hb; omega)
      go_cut [10] (fun v wc => wc = W3 ∧ ∃ s' : List Int, W3.ownsRow W2.heap.size 26 1 v s'.length (s'.map (.int .u64)) ∧ GInv c t (G.publish M era).1 (G.publish M era).2.1 (s' ++ [era]))
      case first =>
        cases hst : (G.publish M era).2.2
        · go_wp2
          go_meet
          case rel =>
            refine ⟨rfl, [], ⟨rfl, .inl ⟨rfl, rfl⟩⟩, ?_⟩
            have := HX.out
            rw [hst, if_neg (by simp)] at this; exact this
        · go_wp2
          go_meet
          case rel =>
            refine ⟨rfl, s, hown3, ?_⟩
            have := HX.out
            rw [hst, if_pos rfl] at this; exact this
      case rest =>
        obtain ⟨rfl, s', hown5, hG5⟩ := hcut
        have hle5 := hG5.le
        have hs9 : s'.length ≤ 8 := by simp at hle5; omega
        have hb3 : W2.heap.size ≤ wc.heap.size := Nat.le_trans hFr.size f3.size
        have HG5 := Lib.hid hG5; clear hG5 hle5 HX HG hown3 hown
        go_upto_region 12 with (at_builtin; go_loud (refine wpList_append_own _ rfl _ _ 24 rfl W2.heap.size 26 i0 (.int .u64 0) 1 8 Try.underlying24 hi hz0 hz1 hz2 rfl (by decide) _ s'.length _ rfl (hown5.alloc _) ⟨wc.heap.size, 0, none⟩ 1 1 [.int .u64 era] rfl rfl ?c1 ?c2 ?c3 ?c4 ?c5 ?_))
        case c1 => exact cell_one_new _ _ _
        case c2 => simp [Value.oneCell']
        case c3 => unfold maxLen; omega
        case c4 => omega
        case c5 => simp; omega
        intro v4 W4 hown4 hgr4 _
        have hrow := fun k h => (hown5.lt k h).1
        have g4 := (((Fr.refl [] wc).alloc _).nil (S := u10.ownBlock.toList)).trans (Fr.of_grown hgr4)
        have hm4 := hm3.fr g4 (not_row hrow (by omega)) (not_row hrow (by omega)) (not_row hrow (by omega))
        have hg4 : GdAt W4 bg _ := Blk.fr hg3 g4 (not_row hrow (by omega))
        have F4 : Fr [bg, bb, bc] W2 W4 := Fr.grown ((hFr.trans f3).alloc _) hgr4 hrow
        have hb4 : W2.heap.size ≤ W4.heap.size := F4.size
        replace hown4 : W4.ownsRow W2.heap.size 26 1 v4 (s' ++ [era]).length ((s' ++ [era]).map (.int .u64)) := by simpa using hown4
        have hS1 : 1 ≤ (s' ++ [era]).length ∧ (s' ++ [era]).length ≤ 9 := by simp; omega
        clear hgr4 g4 hown5 hrow hs9 f3 hm3 hg3 hmr hgr hFr fw
        generalize s' ++ [era] = S at *
        have hlat : (G.publish M era).1.latest = era := rfl
        have HLAT := Lib.hid hlat; clear hlat
        have hMc : (G.publish M era).2.1.c = c := HG5.out.mc
        have hok5 := hm4.ok
        generalize (G.publish M era).1 = G4 at *
        generalize (G.publish M era).2.1 = M4 at *
        have HMc := Lib.hid hMc; clear hMc
        obtain ⟨g, gc, hv4⟩ : ∃ g gc, v4 = .slice (some ⟨g, 0, none⟩) S.length gc := by
          rcases hown4.2 with ⟨_, h0⟩ | ⟨g, gc, _, h, _⟩
          · omega
          · exact ⟨g, gc, h⟩
        rw [hv4] at hown4 ⊢
        go_upto_region 13 with fail
        go_wp2_with fail
        go_loopw [71] (fun i wr => LoopB W4 bm bb bc M4 S.length i wr) (fun i _ => S.length - (intOf i).toNat)
        case atStart => exact ⟨0, M4, Nat.zero_le _, rfl, rfl, rfl, hm4, Fr.refl _ _⟩
        case round =>
          obtain ⟨j, M5, hj, rfl, h5c, h5b, hm5, f5⟩ := hrel
          by_cases hlj : j < S.length
          · have hown5 := ownsRow_fr hown4 f5 (by intro b hb; simp at hb; omega)
            have hx1 : wr.cell? ⟨g, j, none⟩ = some (.int .u64 (S.getD j 0)) := by
              rw [hown5.cellAt j (by omega)]; simp [List.getD_eq_getElem?_getD, List.getElem?_eq_getElem hlj]
            have hb5 := hbox wr (F4.trans (f5.mono (by simp)))
            have hlj' : (j : Int) < (S.length : Int) := by omega
            have HC5 := Lib.hid h5c; clear h5c
            have HB5 := Lib.hid h5b; clear h5b
            have hsum := IntWalk.i64_in ((j : Int) + 1) (by omega)
            generalize hy : S.getD j 0 = y at *
            have HY := Lib.hid hy; clear hy
            go_upto_region 17 with fail
            go_wp2_with fail
            go_loopw [77, 15] (fun i st w' => LoopC wr bm bb bc c M5 t y n i st w') (fun i _ _ => n - (intOf i).toNat)
            case atStart => exact ⟨0, M5, Nat.zero_le _, rfl, rfl, rfl, rfl, hm5, Fr.refl _ _⟩
            case round =>
              obtain ⟨r, M6, hr, rfl, rfl, h6c, h6b, hm6, f6⟩ := hrel
              have hsumr := IntWalk.i64_in ((r : Int) + 1) (by have := HN.out; omega)
              have hMc6 : M6.c = c := by rw [h6c, HC5.out, HMc.out]
              have ok6 := hm6.ok
              have HC6 := Lib.hid h6c; clear h6c
              have HB6 := Lib.hid h6b; clear h6b
              have HMc6 := Lib.hid hMc6; clear hMc6
              by_cases hlr : r < n
              · have hlr' : (r : Int) < c.slots := by have := HN.out; omega
                have hval : (M6.reserved t r).2 = getI M5.b.cells (c.resv t r) := by
                  rw [reserved_val ok6 t0 (by rw [HMc6.out]; exact t1) (by omega) (by rw [HMc6.out]; exact hlr'), HMc6.out, HB6.out]
                have HVAL := Lib.hid hval; clear hval
                cases hst : anyB c M5.b.cells t y r
                · have HST := Lib.hid hst; clear hst
                  go_upto_region 20 with (go_at_call 41; refine (reserved_any bm bb bc M6 t r _ hm6).mono ?_; rintro e W7 ⟨rfl, f7, hm7⟩)
                  go_wp2_with fail
                  go_roundw
                  case rel =>
                    refine ⟨r + 1, (M6.reserved t r).1, hlr, ?_, ?_, ?_, ?_, hm7, f6.trans f7⟩
                    · simp
                    · rw [anyB_succ, HST.out, HVAL.out]; rfl
                    · exact HC6.out
                    · rw [show (M6.reserved t r).1.b.cells = M6.b.cells from Bk.load_cells _ _ _, HB6.out]
                  case measure => simp [intOf]; omega
                · have HST := Lib.hid hst; clear hst
                  go_wp2_with fail
                  go_roundw
                  case rel =>
                    refine ⟨r + 1, M6, hlr, ?_, ?_, HC6.out, HB6.out, hm6, f6⟩
                    · simp
                    · rw [anyB_succ, HST.out]; rfl
                  case measure => simp [intOf]; omega
              · have hlr' : ¬ (r : Int) < c.slots := by have := HN.out; omega
                have hrn : r = n := by omega
                subst hrn
                have hany : anyB c M5.b.cells t y r = true := by
                  rw [HB5.out, ← HY.out]; exact HG5.out.any j hlj r HN.out
                rw [hany]
                go_wp2_with fail
                go_roundw
                case rel =>
                  refine ⟨j + 1, M6, hlj, ?_, ?_, ?_, hm6, f5.trans f6⟩
                  · simp
                  · rw [HC6.out, HC5.out]
                  · rw [HB6.out, HB5.out]
                case measure => simp [intOf]; omega
          · have hlj' : ¬ (j : Int) < (S.length : Int) := by omega
            have hg5 : GdAt wr bg G4 := Blk.fr hg4 f5 (by simp [n1, n2])
            have hb5 := hbox wr (F4.trans (f5.mono (by simp)))
            have hown5 := ownsRow_fr hown4 f5 (by intro b hb; simp at hb; omega)
            have hleS : ¬ c.slots < (S.length : Int) := by have := HG5.out.le; omega
            have hsumk := IntWalk.i64_in ((k : Int) + 1) (by omega)
            go_wp2_with (go_at_call 42; refine (latest_any bg G4 _ hg5).mono ?_; rintro e w9 ⟨rfl, rfl⟩; have hlat := HLAT.out)
            refine ⟨⟨k + 1, G4, M5, S, hlt, by simp, hown5, HG5.out.sim (by rw [h5c, HMc.out]) h5b, hm5, hg5, hok', ?_⟩, by simp [intOf]; omega⟩
            exact F4.trans (f5.mono (by simp))
    · have hkl : k = l.length := by omega
      subst hkl
      have hlt' : ¬ ((l.length : Nat) : Int) < ((l.length : Nat) : Int) := by omega
      go_wp2_with (go_at_call 39; refine (alive10 _).mono ?_; rintro e W9 ⟨rfl, f9⟩)
      go_ret
      refine ⟨rfl, ?_⟩
      have z0 := F0.size
      have z1 := f1.size
      have hF := hFr.trans (f9.nil (S := [bg, bb, bc]))
      exact F0.trans (Fr.hide (f1.trans f2) hF (by intro b hb; simp at hb; omega))
theorem guardStands_walk (w : World) (c : Cfg) (_ : c.W) (t : Int) (_ : -9223372036854775808 ≤ t ∧ t ≤ 9223372036854775807) (v : Value) (l : List Int) (hv : SlI .u64 w v l) (hl : Ws l) :
    Calls Try.prog 4 #[.agg #[.int .i64 c.threads, .int .i64 c.slots, .int .i64 c.cap, .int .i64 c.height, .int .i64 c.keep, .int .i64 c.every, .int .i64 c.last], .int .i64 t, v] w fun e w' => e = .returned (.bool true) ∧ Fr [] w w' := by
  have hv0 := hv
  obtain ⟨a, cap, rfl, _⟩ := hv0
  by_cases hc : c.R
  · by_cases h0 : 0 ≤ t
    · by_cases h1 : t < c.threads
      · by_cases hn : l.length ≤ 40
        · exact guardStands_in c hc t _ l w hv hl h0 h1 hn
        · exact guardStands_out c t a l.length cap w (.inr ⟨hc, .inr (.inr ⟨h0, h1, by omega⟩)⟩)
      · exact guardStands_out c t a l.length cap w (.inr ⟨hc, .inr (.inl ⟨h0, by omega⟩)⟩)
    · exact guardStands_out c t a l.length cap w (.inr ⟨hc, .inl (by omega)⟩)
  · exact guardStands_out c t a l.length cap w (.inl hc)
end Go.Proofs.Ytaddjigmdeejlaa
