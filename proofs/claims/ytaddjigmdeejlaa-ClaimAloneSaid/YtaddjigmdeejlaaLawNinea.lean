/- ClaimAlone, the walk of what it reads: the words of all slots. -/
import Derived.Test.YtaddjigmdeejlaaAliveNine
import Derived.Test.YtaddjigmdeejlaaClaimq
import Derived.Test.YtaddjigmdeejlaaLawf
import Derived.Test.YtaddjigmdeejlaaLawTenc
namespace Go.Proofs.Ytaddjigmdeejlaa
open Go.RowKit Go.Ss

theorem cell_lt' {w : World} {a : Addr} {v : Value} (h : w.cell? a = some v) : a.block < w.heap.size := by
  rcases Nat.lt_or_ge a.block w.heap.size with hl | hl
  · exact hl
  · unfold World.cell? at h; rw [Array.getElem?_eq_none hl] at h; cases h
theorem cell_fr {S : List Nat} {w w' : World} {a : Addr} {v : Value} (F : Fr S w w') (h : w.cell? a = some v) (ha : a.block ∉ S) : w'.cell? a = some v :=
  (World.cell?_of_block (F.block _ (cell_lt' h) ha)).trans h
theorem block_add (a : Addr) (n : Nat) : (a.add n).block = a.block := by unfold Addr.add; split <;> rfl
theorem SlP.cells_ {P : Nat → Prop} {w : World} {v : Value} {l : List Int} (h : SlP P w v l) (hpos : 0 < l.length) :
    ∃ ad cap, v = .slice (some ad) l.length cap ∧ P ad.block ∧ ∀ S w', Fr S w w' → ad.block ∉ S → ∀ j, j < l.length → w'.cell? (ad.add j) = some (.int .u64 (l.getD j 0)) := by
  obtain ⟨⟨a, cap, rfl, h1, h2, h3, h4⟩, hP⟩ := h
  cases a with
  | none => have := (h3 rfl).1; subst this; exact absurd hpos (by simp)
  | some ad =>
    refine ⟨ad, cap, rfl, hP hpos _ _ _ rfl, fun S w' F hS j hj => ?_⟩
    exact cell_fr F ((h4 ad rfl).2 j hj) (by rw [block_add]; exact hS)

def MetasOut (c : Cfg) (cells : List Int) (n : Nat) (w : World) (e : Ending) (w' : World) : Prop :=
  ∃ v : Value, e = .returned v ∧ Fr [] w w' ∧ SlP (fun b => w.heap.size ≤ b) w' v (metasOf c cells n)
def LoopM (W : World) (bm bb bc base : Nat) (c : Cfg) (cells : List Int) (n : Nat) (v i : Value) (wr : World) : Prop :=
  ∃ (k : Nat) (M : Mm), k ≤ n ∧ i = .int .i64 ((k : Int) + 1) ∧ wr.ownsRow base 26 1 v k ((metasOf c cells k).map (.int .u64)) ∧ M.c = c ∧ M.b.cells = cells ∧ MemAt wr bm bb bc M ∧ Fr [bb, bc] W wr

set_option maxRecDepth 100000 in
set_option maxHeartbeats 1000000 in
theorem metas_any (bx bp bm bb bc : Nat) (M : Mm) (n : Nat) (hn : M.c.cap = n) (w : World) (hx : Blk w bx #[.int .i64 M.c.threads, .int .i64 M.c.slots, .int .i64 M.c.cap, .int .i64 M.c.height, .int .i64 M.c.keep, .int .i64 M.c.every, .int .i64 M.c.last] 23) (hp : Blk w bp #[.pointer (some ⟨bm, 0, none⟩)] 25) (hm : MemAt w bm bb bc M) :
    Calls Try.prog 25 #[.pointer (some ⟨bx, 0, none⟩), .pointer (some ⟨bp, 0, none⟩)] w (MetasOut M.c M.b.cells n w) := by
  have hc := hm.ok.r
  have hxc : ∀ w', Fr [] w w' → ∀ i, w'.cell? ⟨bx, i, none⟩ = _ := fun w' h i => (hx.fr0 h).cell i
  have hpc : ∀ w', Fr [] w w' → ∀ i, w'.cell? ⟨bp, i, none⟩ = _ := fun w' h i => (hp.fr0 h).cell i
  have hR := Fr.refl [] w
  have hn1 := hc.c0
  have hn64 := hc.c1
  have hlen := hm.ok.len
  have hws := hm.ok.ws
  have HN := Lib.hid hn; clear hn
  have HL := Lib.hid hlen; clear hlen
  go_enter Try.func25, Try.ntmps25
  go_wp2_with fail
  go_region_held3 (fun w' => Fr [] w w') (repeat (first | assumption | exact Fr.refl _ _ | refine Fr.drew ?_ | refine Fr.set1 ?_ _ | refine Fr.alloc ?_ _ | refine Fr.drewN ?_ _ | exact Fr.nil (by assumption))) (first | (go_at_call 27; refine (mbank_any bm bb M.c _ (hm.mem.fr0 (by (first | assumption | exact Fr.refl _ _ | exact (Fr.refl _ _).drew | exact Fr.drew (by assumption))))).mono ?_; rintro e w9 ⟨rfl, rfl⟩) | (go_at_call 28; refine (cells_any bb bc M.b _ (hm.bank.fr0 (by (first | assumption | exact Fr.refl _ _ | exact (Fr.refl _ _).drew | exact Fr.drew (by assumption))))).mono ?_; rintro e w1 ⟨k, rfl, hf1, q1, hk1⟩; replace hf1 : Fr [] w w1 := Fr.trans (by (first | assumption | exact Fr.refl _ _ | exact (Fr.refl _ _).drew | exact Fr.drew (by assumption))) hf1) | (go_at_call 26; refine (memOf_any M.c hc M.b.cells ⟨k, 0, none⟩ _ _ (SrcAt.of_blk (hk1.fr0 (by first | exact Fr.refl _ _ | exact (Fr.refl _ _).drew))) (hk1.fr0 (by first | exact Fr.refl _ _ | exact (Fr.refl _ _).drew)).lt HL.out hws).mono ?_; rintro e w2 ⟨bm2, bb2, bc2, rfl, hf2, q2, q3, q4, hm2⟩; have hq : w.heap.size ≤ _ := Fr.size (by (first | assumption | exact Fr.refl _ _ | exact (Fr.refl _ _).drew | exact Fr.drew (by assumption)) : Fr [] w _); replace q2 := Nat.le_trans hq q2; replace q3 := Nat.le_trans hq q3; replace q4 := Nat.le_trans hq q4; clear hq; replace hf2 : Fr [] w w2 := Fr.trans (by (first | assumption | exact Fr.refl _ _ | exact (Fr.refl _ _).drew | exact Fr.drew (by assumption))) hf2))
  have hx2 := hx.fr0 hf2
  clear hxc hpc hR
  go_wp2_with fail
  have k1 := hm2.mem.lt
  have k2 := hm2.bank.bank.lt
  have k3 := hm2.bank.cells.lt
  obtain ⟨i0, hi, hz0, hz1, hz2⟩ := info_parts info_word
  have hz := hf2.size
  have lx := hx.lt
  have hxw : ∀ w', Fr [bb2, bc2] w2 w' → ∀ i, w'.cell? ⟨bx, i, none⟩ = _ := fun w' h i => (hx2.fr h (by simp; omega)).cell i
  generalize hcells : M.b.cells = cells at *
  generalize M.c = c at *
  go_loopw [3, 6] (fun v i wr => LoopM w2 bm2 bb2 bc2 w2.heap.size c cells n v i wr) (fun _ i _ => n + 1 - (intOf i).toNat)
  case atStart => exact ⟨0, _, Nat.zero_le _, rfl, ⟨rfl, .inl ⟨rfl, rfl⟩⟩, rfl, rfl, hm2, Fr.refl _ _⟩
  case round =>
    obtain ⟨k, M', hk, rfl, hown, hMc, hMb, hmr, hFr⟩ := hrel
    have hxr := hxw wr hFr
    have HMc := Lib.hid hMc; clear hMc
    have HMb := Lib.hid hMb; clear hMb
    have HXW := Lib.hid hxw; clear hxw
    have hN := HN.out
    by_cases hlt : k < n
    · have hlt' : (k : Int) + 1 ≤ c.cap := by omega
      have hval : (M'.meta_ ((k : Int) + 1)).2 = getI cells (c.cell ((k : Int) + 1) 0) := by
        rw [Mm.meta_val hmr.ok (by omega) (by rw [HMc.out]; omega), HMc.out, HMb.out]
      have HV := Lib.hid hval; clear hval hN
      have hbz : w2.heap.size ≤ wr.heap.size := hFr.size
      go_wp2_with (first | (go_at_call 29; refine (meta2_any bm2 bb2 bc2 M' ((k : Int) + 1) _ hmr).mono ?_; rintro e W3 ⟨rfl, f3, hm3⟩; have hown3 := ownsRow_fr hown f3 (by intro b hb; simp at hb; omega); have hb3 : w2.heap.size ≤ W3.heap.size := Nat.le_trans hbz f3.size) | (at_builtin; go_loud (refine wpList_append_own _ rfl _ _ 24 rfl w2.heap.size 26 i0 (.int .u64 0) 1 8 Try.underlying24 hi hz0 hz1 hz2 rfl (by decide) _ k _ rfl (hown3.alloc _) ⟨W3.heap.size, 0, none⟩ 1 1 [.int .u64 (M'.meta_ ((k : Int) + 1)).2] rfl rfl ?c1 ?c2 ?c3 ?c4 ?c5 ?_)))
      case c1 => exact cell_one_new _ _ _
      case c2 => simp [Value.oneCell']
      case c3 => unfold maxLen; omega
      case c4 => omega
      case c5 => simp; omega
      intro v4 W4 hown4 hgr4 _
      have hrow := fun k h => (hown3.lt k h).1
      have g4 := (((Fr.refl [] W3).alloc _).nil (S := u3.ownBlock.toList)).trans (Fr.of_grown hgr4)
      have hm4 : MemAt W4 bm2 bb2 bc2 _ := hm3.fr g4 (not_row hrow (by omega)) (not_row hrow (by omega)) (not_row hrow (by omega))
      have F4 : Fr [bb2, bc2] w2 W4 := Fr.grown ((hFr.trans f3).alloc _) hgr4 hrow
      replace hown4 : W4.ownsRow w2.heap.size 26 1 v4 (k + 1) ((metasOf c cells (k + 1)).map (.int .u64)) := by
        rw [metasOf_succ, ← HV.out]; simpa using hown4
      clear hgr4 g4 hown3 hown hrow f3 hm3 hmr
      go_wp2_with fail
      go_roundw
      case rel => exact ⟨k + 1, (M'.meta_ ((k : Int) + 1)).1, hlt, by simp, hown4, HMc.out, (Mm.meta_cells _ _).trans HMb.out, hm4, F4⟩
      case measure => simp [intOf]; omega
    · have hkn : k = n := by omega
      subst hkn
      have hlt' : ¬ ((k : Int) + 1 ≤ c.cap) := by omega
      clear hN
      obtain ⟨g, gc, hv⟩ : ∃ g gc, u3 = .slice (some ⟨g, 0, none⟩) k gc := by
        rcases hown.2 with ⟨_, h0⟩ | ⟨g, gc, _, h, _⟩
        · have := HN.out; omega
        · exact ⟨g, gc, h⟩
      subst hv
      have hs : SlP (fun b => w.heap.size ≤ b) wr _ _ := SlP.mono (SlP.own hown (metasOf_length c cells k).symm) (fun b h => by omega)
      have HS := Lib.hid hs; clear hs hown
      go_wp2_with fail
      go_ret
      have F : Fr [] w wr := Fr.hide hf2 hFr (by simp; omega)
      exact ⟨.slice (some ⟨g, 0, none⟩) k gc, rfl, F, HS.out⟩
end Go.Proofs.Ytaddjigmdeejlaa
