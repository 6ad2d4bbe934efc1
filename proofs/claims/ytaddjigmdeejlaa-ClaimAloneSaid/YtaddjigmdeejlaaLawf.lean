/- A program's words and the document's, of a world with some words. -/
import Derived.Test.YtaddjigmdeejlaaRefa
import Derived.Test.YtaddjigmdeejlaaRefg
namespace Go.Proofs.Ytaddjigmdeejlaa
open Go.RowKit Go.Ss

set_option maxRecDepth 100000 in
set_option maxHeartbeats 1000000 in
theorem refRight_bad (c : Cfg) (hc : ¬ c.R) (w : World) : Calls Try.prog 98 #[.agg #[.int .i64 c.threads, .int .i64 c.slots, .int .i64 c.cap, .int .i64 c.height, .int .i64 c.keep, .int .i64 c.every, .int .i64 c.last]] w fun e w' => e = .returned (.bool false) ∧ Fr [] w w' := by
  have hr : c.threads < 1 ∨ 8 < c.threads ∨ c.slots < 1 ∨ 8 < c.slots ∨ c.cap < 1 ∨ 64 < c.cap ∨ c.height < 1 ∨ 6 < c.height ∨ c.keep < 1 ∨ 64 < c.keep ∨ c.every < 1 ∨ 64 < c.every ∨ c.last < 0 ∨ 1073741823 < c.last := by
    rcases Classical.em (c.threads < 1 ∨ 8 < c.threads ∨ c.slots < 1 ∨ 8 < c.slots ∨ c.cap < 1 ∨ 64 < c.cap ∨ c.height < 1 ∨ 6 < c.height ∨ c.keep < 1 ∨ 64 < c.keep ∨ c.every < 1 ∨ 64 < c.every ∨ c.last < 0 ∨ 1073741823 < c.last) with h | h
    · exact h
    · exact absurd ⟨by omega, by omega, by omega, by omega, by omega, by omega, by omega, by omega, by omega, by omega, by omega, by omega, by omega, by omega⟩ hc
  have HR := Lib.hid hr; clear hr hc
  obtain ⟨W0, hW0⟩ : ∃ W, w.alloc (.cells #[.int .i64 c.threads, .int .i64 c.slots, .int .i64 c.cap, .int .i64 c.height, .int .i64 c.keep, .int .i64 c.every, .int .i64 c.last] 23) = W := ⟨_, rfl⟩
  have hB0 : Blk W0 w.heap.size #[.int .i64 c.threads, .int .i64 c.slots, .int .i64 c.cap, .int .i64 c.height, .int .i64 c.keep, .int .i64 c.every, .int .i64 c.last] 23 := hW0 ▸ Blk.new _ _ _
  have F0 : Fr [] w W0 := hW0 ▸ (Fr.refl _ _).alloc _
  have hBc0 : ∀ w', Fr [] W0 w' → ∀ i, w'.cell? ⟨w.heap.size, i, none⟩ = _ := fun w' h i => (hB0.fr0 h).cell i
  have hBr0 := Fr.refl [] W0
  go_enter Try.func98, Try.ntmps98
  go_wp2_with fail
  all_goals first | (go_ret; exact ⟨rfl, F0⟩) | (go_ret; refine ⟨rb ?_, F0⟩; have := HR.out; rw [decide_eq_false_iff_not]; omega) | (exfalso; have := HR.out; omega)

set_option maxRecDepth 100000 in
theorem refBankOf_any {P : Nat → Prop} (l : List Int) (ad : Addr) (cap : Nat) (w : World) (hs : SlI .u64 w (.slice (some ad) l.length cap) l) (hpos : 0 < l.length) (hlen : l.length ≤ 100000) (hP : ∀ b, w.heap.size ≤ b → P b) :
    Calls Try.prog 147 #[.slice (some ad) l.length cap] w fun e w' => ∃ v, e = .returned (.agg #[v, .int .i64 0, .int .i64 0, .int .i64 0, .int .u64 0, .int .u64 0, .int .u64 0, .bool false]) ∧ Fr [] w w' ∧ SlP P w' v l := by
  obtain ⟨W0, hW0⟩ : ∃ W, w.alloc (.cells #[.slice none 0 0, .int .i64 0, .int .i64 0, .int .i64 0, .int .u64 0, .int .u64 0, .int .u64 0, .bool false] 30) = W := ⟨_, rfl⟩
  have hB0 : Blk W0 w.heap.size #[.slice none 0 0, .int .i64 0, .int .i64 0, .int .i64 0, .int .u64 0, .int .u64 0, .int .u64 0, .bool false] 30 := hW0 ▸ Blk.new _ _ _
  have F0 : Fr [] w W0 := hW0 ▸ (Fr.refl _ _).alloc _
  have hBc0 : ∀ w', Fr [] W0 w' → ∀ i, w'.cell? ⟨w.heap.size, i, none⟩ = _ := fun w' h i => (hB0.fr0 h).cell i
  have hBr0 := Fr.refl [] W0
  have z0 := F0.size
  have l0 := hB0.lt
  have hs0 := SlI.fr hs F0 (by simp)
  obtain ⟨i0, hi, hz0, hz1, hz2⟩ := info_parts info_word
  have hnews := SlI.news (SlI.fr hs0 ((Fr.refl [] W0).alloc (.cells #[] 26)) (by simp))
  have HNW := Lib.hid hnews; clear hnews
  have HS := Lib.hid hs; clear hs
  have HS0 := Lib.hid hs0; clear hs0
  clear hBc0 hBr0
  have hn0 := (hB0.alloc (.cells #[] 26)).cell
  go_enter Try.func147, Try.ntmps147
  go_wp2_with (at_builtin; go_loud (refine wpList_append_own _ rfl _ _ 24 rfl W0.heap.size 26 i0 (.int .u64 0) 1 8 Try.underlying24 hi hz0 hz1 hz2 rfl (by decide) _ 0 [] rfl (World.ownsRow_lit W0 #[] 0 (Nat.le_refl _) (Nat.zero_le _) rfl) ad l.length cap (l.map (.int .u64)) rfl ?c1 HNW.out ?c2 ?c3 ?c4 ?c5 ?_))
  case c1 => simp
  case c2 => simp [Value.oneCell']
  case c3 => unfold maxLen; omega
  case c4 => omega
  case c5 => simp
  intro v8 W8 hown8 hgr8 _
  have F78 : Fr [] W0 W8 := Fr.grown ((Fr.refl [] W0).alloc _) hgr8 (by intro k hk; cases hk; exact Nat.le_refl _)
  replace hown8 : W8.ownsRow W0.heap.size 26 1 v8 l.length (l.map (.int .u64)) := by simpa using hown8
  clear hgr8
  obtain ⟨g, gc, hv8⟩ : ∃ g gc, v8 = .slice (some ⟨g, 0, none⟩) l.length gc := by
    rcases hown8.2 with ⟨_, h0⟩ | ⟨g, gc, _, h, _⟩
    · omega
    · exact ⟨g, gc, h⟩
  subst hv8
  have lg := hown8.lt g rfl
  have z8 := F78.size
  have hB8 := hB0.fr0 F78
  clear hn0
  have hn3 := hB8.cell
  have hf3 := hB8.frozen
  have hs8 := SlP.own hown8 rfl
  go_wp2_with fail
  refine name_post (fun W9 hW9 => ?_)
  have hB9 := (by rw [← hW9]; (repeat (first | with_reducible apply Blk.drew | with_reducible apply Blk.setCell | (with_reducible apply Blk.setCell_ne; rotate_left; (simp; omega)) | with_reducible apply Blk.alloc | exact hB8)) : Blk W9 w.heap.size _ 30); simp only [List.setIfInBounds_toArray, List.set_cons_succ, List.set_cons_zero] at hB9
  have F9 : Fr [w.heap.size] W8 W9 := by rw [← hW9]; (repeat (first | with_reducible assumption | with_reducible exact Fr.refl _ _ | (with_reducible refine Fr.setM ?_ ?hm _; case hm => (simp; done)) | with_reducible refine Fr.drew ?_ | with_reducible refine Fr.alloc ?_ _ | (with_reducible refine Fr.setN ?_ ?hn _; case hn => omega) | with_reducible exact Fr.nil (by with_reducible assumption)))
  clear hW9
  have hr1 := hB9.cell
  have FF : Fr [] w W9 := Fr.hide F0 (F78.nil.trans F9) (by simp)
  have hs9 : SlP P W9 _ l := SlP.mono (SlP.fr hs8 F9 (by simp; omega)) (fun b h => hP b (by omega))
  refine bodyPost_ret (v := .agg #[.slice (some ⟨g, 0, none⟩) l.length gc, .int .i64 0, .int .i64 0, .int .i64 0, .int .u64 0, .int .u64 0, .int .u64 0, .bool false]) (by simp [results, Try.results147, go_sem, hr1]) rfl ⟨_, rfl, FF, hs9⟩

theorem SlP.form' {P : Nat → Prop} {w : World} {v : Value} {l : List Int} (h : SlP P w v l) : ∃ a cap, v = .slice a l.length cap := by
  obtain ⟨⟨a, cap, e, _⟩, _⟩ := h
  exact ⟨a, cap, e⟩

set_option maxRecDepth 100000 in
theorem refMemOf_any (c : Cfg) (l : List Int) (ad : Addr) (cap : Nat) (w : World) (hs : SlI .u64 w (.slice (some ad) l.length cap) l) (hpos : 0 < l.length) (hlen : l.length ≤ 100000) :
    Calls Try.prog 100 #[.agg #[.int .i64 c.threads, .int .i64 c.slots, .int .i64 c.cap, .int .i64 c.height, .int .i64 c.keep, .int .i64 c.every, .int .i64 c.last], .slice (some ad) l.length cap] w fun e w' => ∃ v, e = .returned (.agg #[.int .i64 c.threads, .int .i64 c.slots, .int .i64 c.cap, .int .i64 c.height, .int .i64 c.keep, .int .i64 c.every, .int .i64 c.last, v, .int .i64 0, .int .i64 0, .int .i64 0, .int .u64 0, .int .u64 0, .int .u64 0, .bool false]) ∧ Fr [] w w' ∧ SlP (fun b => w.heap.size ≤ b) w' v l := by
  obtain ⟨W0, hW0⟩ : ∃ W, w.alloc (.cells #[.int .i64 c.threads, .int .i64 c.slots, .int .i64 c.cap, .int .i64 c.height, .int .i64 c.keep, .int .i64 c.every, .int .i64 c.last] 23) = W := ⟨_, rfl⟩
  have hB0 : Blk W0 w.heap.size #[.int .i64 c.threads, .int .i64 c.slots, .int .i64 c.cap, .int .i64 c.height, .int .i64 c.keep, .int .i64 c.every, .int .i64 c.last] 23 := hW0 ▸ Blk.new _ _ _
  have F0 : Fr [] w W0 := hW0 ▸ (Fr.refl _ _).alloc _
  have hBc0 : ∀ w', Fr [] W0 w' → ∀ i, w'.cell? ⟨w.heap.size, i, none⟩ = _ := fun w' h i => (hB0.fr0 h).cell i
  have hBr0 := Fr.refl [] W0
  obtain ⟨W1, hW1⟩ : ∃ W, W0.alloc (.cells #[.int .i64 0, .int .i64 0, .int .i64 0, .int .i64 0, .int .i64 0, .int .i64 0, .int .i64 0, .slice none 0 0, .int .i64 0, .int .i64 0, .int .i64 0, .int .u64 0, .int .u64 0, .int .u64 0, .bool false] 32) = W := ⟨_, rfl⟩
  have hB1 : Blk W1 W0.heap.size #[.int .i64 0, .int .i64 0, .int .i64 0, .int .i64 0, .int .i64 0, .int .i64 0, .int .i64 0, .slice none 0 0, .int .i64 0, .int .i64 0, .int .i64 0, .int .u64 0, .int .u64 0, .int .u64 0, .bool false] 32 := hW1 ▸ Blk.new _ _ _
  have F1 : Fr [] W0 W1 := hW1 ▸ (Fr.refl _ _).alloc _
  have hBc1 : ∀ w', Fr [] W1 w' → ∀ i, w'.cell? ⟨W0.heap.size, i, none⟩ = _ := fun w' h i => (hB1.fr0 h).cell i
  have hBr1 := Fr.refl [] W1
  have z0 := F0.size
  have z1 := F1.size
  have l0 := hB0.lt
  have l1 := hB1.lt
  have hs1 := SlI.fr hs (F0.trans F1) (by simp)
  have hn0 : ∀ w', Fr [W0.heap.size] W1 w' → ∀ i, w'.cell? ⟨w.heap.size, i, none⟩ = _ := fun w' h i => ((hB0.fr0 F1).fr h (by simp; omega)).cell i
  have hn1 : ∀ w', Fr [] W1 w' → ∀ i, w'.cell? ⟨W0.heap.size, i, none⟩ = _ := fun w' h i => (hB1.fr0 h).cell i
  have hz1 : ∀ w', Fr [] W1 w' → ∀ i, w'.frozen? ⟨W0.heap.size, i, none⟩ = false := fun w' h i => (hB1.fr0 h).frozen i
  have hR1 := Fr.refl [] W1
  have HS := Lib.hid hs; clear hs
  clear hBc0 hBc1 hBr0 hBr1
  go_enter Try.func100, Try.ntmps100
  go_upto_region 1 with fail
  go_region_held3 (fun w' => Fr [W0.heap.size] W1 w') (repeat (first | with_reducible assumption | with_reducible exact Fr.refl _ _ | with_reducible refine Fr.drew ?_ | (with_reducible refine Fr.setM ?_ ?hm _; case hm => (simp; done)) | (with_reducible refine Fr.setN ?_ ?hn _; case hn => omega) | with_reducible refine Fr.alloc ?_ _ | with_reducible exact Fr.nil (by with_reducible assumption))) (first | (go_at_call 147; refine (refBankOf_any (P := fun b => W1.heap.size ≤ b) l ad cap _ (SlI.fr hs1 (by (first | assumption | exact Fr.refl _ _ | exact (Fr.refl _ _).drew | exact Fr.drew (by assumption)) : Fr [] W1 _) (by simp)) hpos hlen (fun b hb => Nat.le_trans (Fr.size (by (first | assumption | exact Fr.refl _ _ | exact (Fr.refl _ _).drew | exact Fr.drew (by assumption)) : Fr [] W1 _)) hb)).mono ?_; rintro e w2 ⟨v2, rfl, f2, hs2⟩; obtain ⟨a2, cap2, rfl⟩ := SlP.form' hs2; have f12 : Fr [] W1 w2 := Fr.trans (by (first | assumption | exact Fr.refl _ _ | exact (Fr.refl _ _).drew | exact Fr.drew (by assumption))) f2))
  go_wp2
  refine name_post (fun W8 hW8 => ?_)
  have hB1' := hB1.fr0 f12
  have hB8 := (by rw [← hW8]; (repeat (first | with_reducible apply Blk.drew | with_reducible apply Blk.setCell | (with_reducible apply Blk.setCell_ne; rotate_left; (simp; omega)) | with_reducible apply Blk.alloc | exact hB1')) : Blk W8 W0.heap.size _ 32); simp only [List.setIfInBounds_toArray, List.set_cons_succ, List.set_cons_zero] at hB8
  have F28 : Fr [W0.heap.size] w2 W8 := by rw [← hW8]; (repeat (first | with_reducible assumption | with_reducible exact Fr.refl _ _ | (with_reducible refine Fr.setM ?_ ?hm _; case hm => (simp; done)) | with_reducible refine Fr.drew ?_ | with_reducible refine Fr.alloc ?_ _ | (with_reducible refine Fr.setN ?_ ?hn _; case hn => omega) | with_reducible exact Fr.nil (by with_reducible assumption)))
  clear hW8 hn0 hn1 hz1
  have hr1 := hB8.cell
  have FF : Fr [] w W8 := Fr.hide F0 ((F1.trans f12).nil.trans F28) (by simp; omega)
  have hs8 : SlP (fun b => w.heap.size ≤ b) W8 _ l := SlP.mono (SlP.fr hs2 F28 (by simp; omega)) (fun b h => by omega)
  refine bodyPost_ret (v := .agg #[.int .i64 c.threads, .int .i64 c.slots, .int .i64 c.cap, .int .i64 c.height, .int .i64 c.keep, .int .i64 c.every, .int .i64 c.last, .slice a2 l.length cap2, .int .i64 0, .int .i64 0, .int .i64 0, .int .u64 0, .int .u64 0, .int .u64 0, .bool false]) (by simp [results, Try.results100, go_sem, hr1]) rfl ⟨_, rfl, FF, hs8⟩

def LawOf (c : Cfg) (l : List Int) (w : World) (e : Ending) (w' : World) : Prop :=
  ∃ (bm bb bc : Nat) (v : Value), e = .returned (.tuple #[.pointer (some ⟨bm, 0, none⟩), .agg #[.int .i64 c.threads, .int .i64 c.slots, .int .i64 c.cap, .int .i64 c.height, .int .i64 c.keep, .int .i64 c.every, .int .i64 c.last, v, .int .i64 0, .int .i64 0, .int .i64 0, .int .u64 0, .int .u64 0, .int .u64 0, .bool false], .bool true]) ∧ Fr [] w w' ∧ w.heap.size ≤ bm ∧ w.heap.size ≤ bb ∧ w.heap.size ≤ bc ∧
    MemAt w' bm bb bc ⟨c, ⟨l, 0, Ss.Acc.zero⟩⟩ ∧ SlP (fun b => w.heap.size ≤ b ∧ b ≠ bm ∧ b ≠ bb ∧ b ≠ bc) w' v l

theorem SrcAt.of_sl {w : World} {ad : Addr} {n cap : Nat} {l : List Int} (h : SlI .u64 w (.slice (some ad) n cap) l) : SrcAt w ad l := SlI.news h

set_option maxRecDepth 100000 in
theorem lawOf_ok (c : Cfg) (hc : c.R) (l : List Int) (ad : Addr) (cap : Nat) (w : World) (hs : SlI .u64 w (.slice (some ad) l.length cap) l) (hl : (l.length : Int) = c.len) (h4 : l.length ≤ 400) (hw : Ws l) :
    Calls Try.prog 22 #[.agg #[.int .i64 c.threads, .int .i64 c.slots, .int .i64 c.cap, .int .i64 c.height, .int .i64 c.keep, .int .i64 c.every, .int .i64 c.last], .slice (some ad) l.length cap] w (LawOf c l w) := by
  have hb := hc.len_bd
  have hpos : 0 < l.length := by omega
  have hlen : l.length ≤ 100000 := by omega
  have hlt : ad.block < w.heap.size := by
    obtain ⟨a', cap', e', _, _, _, h4⟩ := hs
    cases e'; exact (h4 ad rfl).1 hpos
  obtain ⟨W0, hW0⟩ : ∃ W, w.alloc (.cells #[.int .i64 c.threads, .int .i64 c.slots, .int .i64 c.cap, .int .i64 c.height, .int .i64 c.keep, .int .i64 c.every, .int .i64 c.last] 23) = W := ⟨_, rfl⟩
  have hB0 : Blk W0 w.heap.size #[.int .i64 c.threads, .int .i64 c.slots, .int .i64 c.cap, .int .i64 c.height, .int .i64 c.keep, .int .i64 c.every, .int .i64 c.last] 23 := hW0 ▸ Blk.new _ _ _
  have F0 : Fr [] w W0 := hW0 ▸ (Fr.refl _ _).alloc _
  have hBc0 : ∀ w', Fr [] W0 w' → ∀ i, w'.cell? ⟨w.heap.size, i, none⟩ = _ := fun w' h i => (hB0.fr0 h).cell i
  have hBr0 := Fr.refl [] W0
  obtain ⟨W1, hW1⟩ : ∃ W, W0.alloc (.cells #[.int .i64 0, .int .i64 0, .int .i64 0, .int .i64 0, .int .i64 0, .int .i64 0, .int .i64 0, .slice none 0 0, .int .i64 0, .int .i64 0, .int .i64 0, .int .u64 0, .int .u64 0, .int .u64 0, .bool false] 32) = W := ⟨_, rfl⟩
  have hB1 : Blk W1 W0.heap.size #[.int .i64 0, .int .i64 0, .int .i64 0, .int .i64 0, .int .i64 0, .int .i64 0, .int .i64 0, .slice none 0 0, .int .i64 0, .int .i64 0, .int .i64 0, .int .u64 0, .int .u64 0, .int .u64 0, .bool false] 32 := hW1 ▸ Blk.new _ _ _
  have F1 : Fr [] W0 W1 := hW1 ▸ (Fr.refl _ _).alloc _
  have hBc1 : ∀ w', Fr [] W1 w' → ∀ i, w'.cell? ⟨W0.heap.size, i, none⟩ = _ := fun w' h i => (hB1.fr0 h).cell i
  have hBr1 := Fr.refl [] W1
  have z0 := F0.size
  have z1 := F1.size
  have l0 := hB0.lt
  have l1 := hB1.lt
  have hs1 := SlI.fr hs (F0.trans F1) (by simp)
  have hd1 : ((l.length : Int) != c.len) = false := by rw [hl]; simp
  have hd2 : ¬ (400 : Int) < (l.length : Int) := by omega
  have hB0' := hB0.fr0 F1
  have hn0 := hB0'.cell
  have HS := Lib.hid hs; clear hs
  have HL := Lib.hid hl; clear hl
  clear hBc0 hBc1 hBr0 hBr1
  go_enter Try.func22, Try.ntmps22
  have hlt1 : ad.block < W1.heap.size := by omega
  go_upto_region 3 with (first | (go_at_call 98; refine (refRight_any c hc _).mono ?_; rintro e w2 ⟨rfl, f2⟩; have hs2 := SlI.fr hs1 f2 (by simp); have hB02 := hB0'.fr0 f2; have hn02 := hB02.cell) | (go_at_call 99; refine (refLen_any c hc _).mono ?_; rintro e w3 ⟨rfl, f3⟩; have hs3 := SlI.fr hs2 f3 (by simp); have hB03 := hB02.fr0 f3; have hn03 := hB03.cell))
  have z3 := (f2.trans f3).size
  go_upto_region 4 with (go_at_call 26; refine (memOf_any c hc l ad cap _ (SrcAt.of_sl hs3) (by omega) HL.out hw).mono ?_; rintro e w4 ⟨bm, bb, bc, rfl, f4, g1, g2, g3, hm4⟩)
  have hs4 := SlI.fr hs3 f4 (by simp)
  have hB04 := hB03.fr0 f4
  have hn04 := hB04.cell
  have hmm := hm4.mem
  have k1 := hm4.mem.lt
  have k2 := hm4.bank.bank.lt
  have k3 := hm4.bank.cells.lt
  have hB14 := ((hB1.fr0 f2).fr0 f3).fr0 f4
  go_wp2_with (first | (go_at_call 100; refine (refMemOf_any c l ad cap _ hs4 hpos hlen).mono ?_; rintro e w5 ⟨v5, rfl, f5, hs5⟩; obtain ⟨a5, cap5, rfl⟩ := SlP.form' hs5; have hm5 := hm4.fr0 f5; have hmm5 := hm5.mem; have hB15 := hB14.fr0 f5; have hn15 := hB15.cell; have hz15 := hB15.frozen) | (go_at_call 27; refine (mbank_any bm bb c _ hmm5).mono ?_; rintro e w9 ⟨rfl, rfl⟩))
  refine name_post (fun W8 hW8 => ?_)
  have hB8 := (by rw [← hW8]; (repeat (first | with_reducible apply Blk.drew | with_reducible apply Blk.setCell | (with_reducible apply Blk.setCell_ne; rotate_left; (simp; omega)) | with_reducible apply Blk.alloc | exact hB15)) : Blk W8 W0.heap.size _ 32); simp only [List.setIfInBounds_toArray, List.set_cons_succ, List.set_cons_zero] at hB8
  have F58 : Fr [W0.heap.size] w5 W8 := by rw [← hW8]; (repeat (first | with_reducible assumption | with_reducible exact Fr.refl _ _ | (with_reducible refine Fr.setM ?_ ?hm _; case hm => (simp; done)) | with_reducible refine Fr.drew ?_ | with_reducible refine Fr.alloc ?_ _ | (with_reducible refine Fr.setN ?_ ?hn _; case hn => omega) | with_reducible exact Fr.nil (by with_reducible assumption)))
  clear hW8 hn15 hz15
  have hr1 := hB8.cell
  have z5 := f4.size
  have z6 := (f2.trans f3).size
  have FF : Fr [] w W8 := Fr.hide F0 ((F1.trans ((f2.trans f3).trans (f4.trans f5))).nil.trans F58) (by simp; omega)
  have hs8 : SlP (fun b => w.heap.size ≤ b ∧ b ≠ bm ∧ b ≠ bb ∧ b ≠ bc) W8 _ l := SlP.mono (SlP.fr hs5 F58 (by simp; omega)) (fun b h => by omega)
  have hm8 := hm5.fr F58 (by simp; omega) (by simp; omega) (by simp; omega)
  refine bodyPost_ret (v := .tuple #[.pointer (some ⟨bm, 0, none⟩), .agg #[.int .i64 c.threads, .int .i64 c.slots, .int .i64 c.cap, .int .i64 c.height, .int .i64 c.keep, .int .i64 c.every, .int .i64 c.last, .slice a5 l.length cap5, .int .i64 0, .int .i64 0, .int .i64 0, .int .u64 0, .int .u64 0, .int .u64 0, .bool false], .bool true]) (by simp [results, Try.results22, go_sem, hr1]) rfl ⟨bm, bb, bc, _, rfl, FF, by omega, by omega, by omega, hm8, hs8⟩

set_option maxRecDepth 100000 in
theorem lawOf_bad (c : Cfg) (a : Option Addr) (n cap : Nat) (w : World) (h : ¬ c.R ∨ (c.R ∧ (n : Int) ≠ c.len) ∨ (c.R ∧ (n : Int) = c.len ∧ (400 : Int) < n)) :
    Calls Try.prog 22 #[.agg #[.int .i64 c.threads, .int .i64 c.slots, .int .i64 c.cap, .int .i64 c.height, .int .i64 c.keep, .int .i64 c.every, .int .i64 c.last], .slice a n cap] w fun e w' => e = .returned (.tuple #[.pointer none, .agg #[.int .i64 0, .int .i64 0, .int .i64 0, .int .i64 0, .int .i64 0, .int .i64 0, .int .i64 0, .slice none 0 0, .int .i64 0, .int .i64 0, .int .i64 0, .int .u64 0, .int .u64 0, .int .u64 0, .bool false], .bool false]) ∧ Fr [] w w' := by
  obtain ⟨W0, hW0⟩ : ∃ W, w.alloc (.cells #[.int .i64 c.threads, .int .i64 c.slots, .int .i64 c.cap, .int .i64 c.height, .int .i64 c.keep, .int .i64 c.every, .int .i64 c.last] 23) = W := ⟨_, rfl⟩
  have hB0 : Blk W0 w.heap.size #[.int .i64 c.threads, .int .i64 c.slots, .int .i64 c.cap, .int .i64 c.height, .int .i64 c.keep, .int .i64 c.every, .int .i64 c.last] 23 := hW0 ▸ Blk.new _ _ _
  have F0 : Fr [] w W0 := hW0 ▸ (Fr.refl _ _).alloc _
  have hBc0 : ∀ w', Fr [] W0 w' → ∀ i, w'.cell? ⟨w.heap.size, i, none⟩ = _ := fun w' h i => (hB0.fr0 h).cell i
  have hBr0 := Fr.refl [] W0
  obtain ⟨W1, hW1⟩ : ∃ W, W0.alloc (.cells #[.int .i64 0, .int .i64 0, .int .i64 0, .int .i64 0, .int .i64 0, .int .i64 0, .int .i64 0, .slice none 0 0, .int .i64 0, .int .i64 0, .int .i64 0, .int .u64 0, .int .u64 0, .int .u64 0, .bool false] 32) = W := ⟨_, rfl⟩
  have hB1 : Blk W1 W0.heap.size #[.int .i64 0, .int .i64 0, .int .i64 0, .int .i64 0, .int .i64 0, .int .i64 0, .int .i64 0, .slice none 0 0, .int .i64 0, .int .i64 0, .int .i64 0, .int .u64 0, .int .u64 0, .int .u64 0, .bool false] 32 := hW1 ▸ Blk.new _ _ _
  have F1 : Fr [] W0 W1 := hW1 ▸ (Fr.refl _ _).alloc _
  have hBc1 : ∀ w', Fr [] W1 w' → ∀ i, w'.cell? ⟨W0.heap.size, i, none⟩ = _ := fun w' h i => (hB1.fr0 h).cell i
  have hBr1 := Fr.refl [] W1
  have z0 := F0.size
  have z1 := F1.size
  have l0 := hB0.lt
  have l1 := hB1.lt
  have hB0' := hB0.fr0 F1
  have hn0 := hB0'.cell
  clear hBc0 hBc1 hBr0 hBr1
  rcases h with hc | ⟨hc, h⟩ | ⟨hc, h, h'⟩
  · have hB1' := hB1.cell
    have hz1 := hB1.frozen
    go_enter Try.func22, Try.ntmps22
    go_wp2_with (go_at_call 98; refine (refRight_bad c hc _).mono ?_; rintro e w2 ⟨rfl, f2⟩; have hB12 := hB1.fr0 f2; have hn12 := hB12.cell; have hz12 := hB12.frozen)
    refine name_post (fun W8 hW8 => ?_)
    have hB8 := (by rw [← hW8]; (repeat (first | with_reducible apply Blk.drew | with_reducible apply Blk.setCell | (with_reducible apply Blk.setCell_ne; rotate_left; (simp; omega)) | with_reducible apply Blk.alloc | exact hB12)) : Blk W8 W0.heap.size _ 32); simp only [List.setIfInBounds_toArray, List.set_cons_succ, List.set_cons_zero] at hB8
    have F28 : Fr [W0.heap.size] w2 W8 := by rw [← hW8]; (repeat (first | with_reducible assumption | with_reducible exact Fr.refl _ _ | (with_reducible refine Fr.setM ?_ ?hm _; case hm => (simp; done)) | with_reducible refine Fr.drew ?_ | with_reducible refine Fr.alloc ?_ _ | (with_reducible refine Fr.setN ?_ ?hn _; case hn => omega) | with_reducible exact Fr.nil (by with_reducible assumption)))
    clear hW8 hn12 hz12 hB1' hz1
    have hr1 := hB8.cell
    have FF : Fr [] w W8 := Fr.hide F0 ((F1.trans f2).nil.trans F28) (by simp; omega)
    refine bodyPost_ret (v := .tuple #[.pointer none, .agg #[.int .i64 0, .int .i64 0, .int .i64 0, .int .i64 0, .int .i64 0, .int .i64 0, .int .i64 0, .slice none 0 0, .int .i64 0, .int .i64 0, .int .i64 0, .int .u64 0, .int .u64 0, .int .u64 0, .bool false], .bool false]) (by simp [results, Try.results22, go_sem, hr1]) rfl ⟨rfl, FF⟩
  · have hd1 : ((n : Int) != c.len) = true := by rw [bne_iff_ne]; exact h
    have HH := Lib.hid h; clear h
    have hB1' := hB1.cell
    have hz1 := hB1.frozen
    go_enter Try.func22, Try.ntmps22
    go_wp2_with (first | (go_at_call 98; refine (refRight_any c hc _).mono ?_; rintro e w3 ⟨rfl, f3⟩; have hB03 := hB0'.fr0 f3; have hn03 := hB03.cell) | (go_at_call 99; refine (refLen_any c hc _).mono ?_; rintro e w2 ⟨rfl, f4⟩; have f2 : Fr [] W1 w2 := f3.trans f4; have hB12 := hB1.fr0 f2; have hn12 := hB12.cell; have hz12 := hB12.frozen))
    refine name_post (fun W8 hW8 => ?_)
    have hB8 := (by rw [← hW8]; (repeat (first | with_reducible apply Blk.drew | with_reducible apply Blk.setCell | (with_reducible apply Blk.setCell_ne; rotate_left; (simp; omega)) | with_reducible apply Blk.alloc | exact hB12)) : Blk W8 W0.heap.size _ 32); simp only [List.setIfInBounds_toArray, List.set_cons_succ, List.set_cons_zero] at hB8
    have F28 : Fr [W0.heap.size] w2 W8 := by rw [← hW8]; (repeat (first | with_reducible assumption | with_reducible exact Fr.refl _ _ | (with_reducible refine Fr.setM ?_ ?hm _; case hm => (simp; done)) | with_reducible refine Fr.drew ?_ | with_reducible refine Fr.alloc ?_ _ | (with_reducible refine Fr.setN ?_ ?hn _; case hn => omega) | with_reducible exact Fr.nil (by with_reducible assumption)))
    clear hW8 hn12 hz12 hB1' hz1
    have hr1 := hB8.cell
    have FF : Fr [] w W8 := Fr.hide F0 ((F1.trans f2).nil.trans F28) (by simp; omega)
    refine bodyPost_ret (v := .tuple #[.pointer none, .agg #[.int .i64 0, .int .i64 0, .int .i64 0, .int .i64 0, .int .i64 0, .int .i64 0, .int .i64 0, .slice none 0 0, .int .i64 0, .int .i64 0, .int .i64 0, .int .u64 0, .int .u64 0, .int .u64 0, .bool false], .bool false]) (by simp [results, Try.results22, go_sem, hr1]) rfl ⟨rfl, FF⟩
  · have hd1 : ((n : Int) != c.len) = false := by rw [h]; simp
    have HH := Lib.hid h; clear h
    have hB1' := hB1.cell
    have hz1 := hB1.frozen
    go_enter Try.func22, Try.ntmps22
    go_wp2_with (first | (go_at_call 98; refine (refRight_any c hc _).mono ?_; rintro e w3 ⟨rfl, f3⟩; have hB03 := hB0'.fr0 f3; have hn03 := hB03.cell) | (go_at_call 99; refine (refLen_any c hc _).mono ?_; rintro e w2 ⟨rfl, f4⟩; have f2 : Fr [] W1 w2 := f3.trans f4; have hB12 := hB1.fr0 f2; have hn12 := hB12.cell; have hz12 := hB12.frozen))
    refine name_post (fun W8 hW8 => ?_)
    have hB8 := (by rw [← hW8]; (repeat (first | with_reducible apply Blk.drew | with_reducible apply Blk.setCell | (with_reducible apply Blk.setCell_ne; rotate_left; (simp; omega)) | with_reducible apply Blk.alloc | exact hB12)) : Blk W8 W0.heap.size _ 32); simp only [List.setIfInBounds_toArray, List.set_cons_succ, List.set_cons_zero] at hB8
    have F28 : Fr [W0.heap.size] w2 W8 := by rw [← hW8]; (repeat (first | with_reducible assumption | with_reducible exact Fr.refl _ _ | (with_reducible refine Fr.setM ?_ ?hm _; case hm => (simp; done)) | with_reducible refine Fr.drew ?_ | with_reducible refine Fr.alloc ?_ _ | (with_reducible refine Fr.setN ?_ ?hn _; case hn => omega) | with_reducible exact Fr.nil (by with_reducible assumption)))
    clear hW8 hn12 hz12 hB1' hz1
    have hr1 := hB8.cell
    have FF : Fr [] w W8 := Fr.hide F0 ((F1.trans f2).nil.trans F28) (by simp; omega)
    refine bodyPost_ret (v := .tuple #[.pointer none, .agg #[.int .i64 0, .int .i64 0, .int .i64 0, .int .i64 0, .int .i64 0, .int .i64 0, .int .i64 0, .slice none 0 0, .int .i64 0, .int .i64 0, .int .i64 0, .int .u64 0, .int .u64 0, .int .u64 0, .bool false], .bool false]) (by simp [results, Try.results22, go_sem, hr1]) rfl ⟨rfl, FF⟩
end Go.Proofs.Ytaddjigmdeejlaa
