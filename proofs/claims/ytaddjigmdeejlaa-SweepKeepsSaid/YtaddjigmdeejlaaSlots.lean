/- A world whose slots are taken, and the entries of some of them (slots of layer 15). -/
import Derived.Test.YtaddjigmdeejlaaSweepc
import Derived.Test.YtaddjigmdeejlaaRefw
import Derived.Test.YtaddjigmdeejlaaMemc
namespace Go.Proofs.Ytaddjigmdeejlaa
open Go.RowKit Go.Ss

def enAt (l : List En) (j : Nat) : En := l.getD j ⟨0, 0, 0⟩
theorem enAt_mem {l : List En} {j : Nat} (h : j < l.length) : l[j]? = some (enAt l j) := by unfold enAt; rw [List.getD_eq_getElem?_getD, List.getElem?_eq_getElem h]; rfl
/-- a slice of entries that came in, read as l -/
def SlE (w : World) (v : Value) (l : List En) : Prop :=
  ∃ (a : Option Addr) (cap : Nat), v = .slice a l.length cap ∧ (a = none → l = []) ∧
    ∀ x, a = some x → (0 < l.length → x.block < w.heap.size) ∧ ∀ i e, l[i]? = some e → w.cell? (x.add (i * 3)) = some (.int .u64 e.node) ∧ w.cell? (x.add (i * 3 + 1)) = some (.int .u64 e.birth) ∧ w.cell? (x.add (i * 3 + 2)) = some (.int .u64 e.retired)
theorem spot_none {w : World} {x : Addr} {v : Value} (h : w.cell? x = some v) : x.spot = none := by
  unfold World.cell? at h
  split at h
  · split at h
    · cases h
    · rename_i hs; cases hx : x.spot with
      | none => rfl
      | some y => rw [hx] at hs; simp at hs
  · cases h
theorem SlE.cells {w : World} {v : Value} {l : List En} (h : SlE w v l) (hpos : 0 < l.length) :
    ∃ g off cap, v = .slice (some ⟨g, off, none⟩) l.length cap ∧ g < w.heap.size ∧ ∀ Q w', FrQ Q w w' → ¬ Q g → ∀ i e, l[i]? = some e →
      w'.cell? ⟨g, off + i * 3, none⟩ = some (.int .u64 e.node) ∧ w'.cell? ⟨g, off + i * 3 + 1, none⟩ = some (.int .u64 e.birth) ∧ w'.cell? ⟨g, off + i * 3 + 2, none⟩ = some (.int .u64 e.retired) := by
  obtain ⟨a, cap, rfl, h1, h2⟩ := h
  cases a with
  | none => have := h1 rfl; subst this; exact absurd hpos (by simp)
  | some x =>
    obtain ⟨h3, h4⟩ := h2 x rfl
    obtain ⟨g, off, sp⟩ := x
    have h40 := (h4 0 _ (enAt_mem hpos)).1
    have hsp : sp = none := by
      have := spot_none h40
      simpa [Addr.add] using this
    subst hsp
    refine ⟨g, off, cap, rfl, h3 hpos, fun Q w' f hQ i e he => ?_⟩
    obtain ⟨c1, c2, c3⟩ := h4 i e he
    rw [add_off] at c1 c2 c3
    exact ⟨cell_frq f c1 hQ, cell_frq f (by rw [Nat.add_assoc]; exact c2) hQ, cell_frq f (by rw [Nat.add_assoc]; exact c3) hQ⟩
theorem SlE.form {w : World} {v : Value} {l : List En} (h : SlE w v l) : ∃ a cap, v = .slice a l.length cap := by
  obtain ⟨a, cap, e, _⟩ := h; exact ⟨a, cap, e⟩

def mineL (l : List En) (n : Nat) : List En := (List.range n).map fun (j : Nat) => ⟨packW ((j : Int) + 1) 0, (enAt l j).birth, (enAt l j).retired⟩
theorem mineL_length (l : List En) (n : Nat) : (mineL l n).length = n := by simp [mineL]
theorem mineL_succ (l : List En) (n : Nat) : mineL l (n + 1) = mineL l n ++ [⟨packW ((n : Int) + 1) 0, (enAt l n).birth, (enAt l n).retired⟩] := by simp [mineL, List.range_succ]
theorem mineL_get (l : List En) (n k : Nat) (h : k < n) : (mineL l n)[k]? = some ⟨packW ((k : Int) + 1) 0, (enAt l k).birth, (enAt l k).retired⟩ := by simp [mineL, h]
theorem enAt_w {l : List En} (h : Es l) {j : Nat} (hj : j < l.length) : (enAt l j).W := h _ (List.mem_of_getElem? (enAt_mem hj))
theorem mineL_es {l : List En} (h : Es l) (n : Nat) (hn : n ≤ l.length) (h64 : n ≤ 64) : Es (mineL l n) := by
  intro e he
  obtain ⟨j, hj, rfl⟩ := List.mem_map.1 he
  have hj := List.mem_range.1 hj
  have hw := enAt_w h (j := j) (by omega)
  refine ⟨?_, ?_, hw.b0, hw.b1, hw.r0, hw.r1⟩
  · show 0 ≤ packW _ _; unfold packW; omega
  · show packW _ _ < _; unfold packW; omega
def slotsM (c : Cfg) : Nat → Mm
  | 0 => ⟨c, ⟨newCells c, 0, Ss.Acc.zero⟩⟩
  | n + 1 => (slotsM c n).release ((n : Int) + 1) (sMeta 1 0)
theorem slotsM_c (c : Cfg) (n : Nat) : (slotsM c n).c = c := by
  induction n with
  | zero => rfl
  | succ n ih => exact ih

def SlotsOut (c : Cfg) (l : List En) (w : World) (e : Ending) (w' : World) : Prop :=
  ∃ (bm bb bc : Nat) (v : Value), e = .returned (.tuple #[.pointer (some ⟨bm, 0, none⟩), v, .bool true]) ∧ Fr [] w w' ∧ w.heap.size ≤ bm ∧ w.heap.size ≤ bb ∧ w.heap.size ≤ bc ∧
    MemAt w' bm bb bc (slotsM c l.length) ∧ RowE (fun b => w.heap.size ≤ b ∧ b ≠ bm ∧ b ≠ bb ∧ b ≠ bc) w' v (mineL l l.length)
def LoopSl (W : World) (bm bb bc : Nat) (c : Cfg) (l : List En) (v i : Value) (wr : World) : Prop :=
  ∃ k : Nat, k ≤ l.length ∧ i = .int .i64 k ∧ wr.ownsRow W.heap.size 106 3 v k (flatE (mineL l k)) ∧ MemAt wr bm bb bc (slotsM c k) ∧ Fr [bb, bc] W wr

set_option maxRecDepth 100000 in
theorem slots_bad (c : Cfg) (a : Option Addr) (n cap : Nat) (w : World) (h : ¬ c.R ∨ (c.R ∧ c.cap < n)) :
    Calls Try.prog 78 #[.agg #[.int .i64 c.threads, .int .i64 c.slots, .int .i64 c.cap, .int .i64 c.height, .int .i64 c.keep, .int .i64 c.every, .int .i64 c.last], .slice a n cap] w fun e w' => e = .returned (.tuple #[.pointer none, .slice none 0 0, .bool false]) ∧ Fr [] w w' := by
  obtain ⟨W0, hW0⟩ : ∃ W, w.alloc (.cells #[.int .i64 c.threads, .int .i64 c.slots, .int .i64 c.cap, .int .i64 c.height, .int .i64 c.keep, .int .i64 c.every, .int .i64 c.last] 23) = W := ⟨_, rfl⟩
  have hB0 : Blk W0 w.heap.size #[.int .i64 c.threads, .int .i64 c.slots, .int .i64 c.cap, .int .i64 c.height, .int .i64 c.keep, .int .i64 c.every, .int .i64 c.last] 23 := hW0 ▸ Blk.new _ _ _
  have F0 : Fr [] w W0 := hW0 ▸ (Fr.refl _ _).alloc _
  have hBc0 : ∀ w', Fr [] W0 w' → ∀ i, w'.cell? ⟨w.heap.size, i, none⟩ = _ := fun w' h i => (hB0.fr0 h).cell i
  have hBr0 := Fr.refl [] W0
  rcases h with hc | ⟨hc, hn⟩
  · go_enter Try.func78, Try.ntmps78
    go_wp2_with (first | (go_at_call 37; refine (memNew_bad c hc _).mono ?_; rintro e w1 ⟨rfl, hf⟩; replace hf : Fr [] W0 w1 := Fr.trans (by (first | assumption | exact Fr.refl _ _ | exact (Fr.refl _ _).drew | exact Fr.drew (by assumption))) hf))
    go_ret3
    exact ⟨rfl, F0.trans hf⟩
  · go_enter Try.func78, Try.ntmps78
    go_wp2_with (first | (go_at_call 37; refine (memNew_any c hc _).mono ?_; rintro e w1 ⟨bm, bb, bc, rfl, hf, q1, q2, q3, hm1⟩; have hb1 := (hB0.fr0 hf).cell))
    go_ret3
    exact ⟨rfl, F0.trans hf⟩

set_option maxRecDepth 100000 in
set_option maxHeartbeats 1000000 in
theorem slots_ok (c : Cfg) (hc : c.R) (v : Value) (l : List En) (w : World) (hv : SlE w v l) (hl : (l.length : Int) ≤ c.cap) (he : Es l) :
    Calls Try.prog 78 #[.agg #[.int .i64 c.threads, .int .i64 c.slots, .int .i64 c.cap, .int .i64 c.height, .int .i64 c.keep, .int .i64 c.every, .int .i64 c.last], v] w (SlotsOut c l w) := by
  obtain ⟨a, cap, rfl⟩ := SlE.form hv
  have hc64 := hc.c1
  obtain ⟨W0, hW0⟩ : ∃ W, w.alloc (.cells #[.int .i64 c.threads, .int .i64 c.slots, .int .i64 c.cap, .int .i64 c.height, .int .i64 c.keep, .int .i64 c.every, .int .i64 c.last] 23) = W := ⟨_, rfl⟩
  have hB0 : Blk W0 w.heap.size #[.int .i64 c.threads, .int .i64 c.slots, .int .i64 c.cap, .int .i64 c.height, .int .i64 c.keep, .int .i64 c.every, .int .i64 c.last] 23 := hW0 ▸ Blk.new _ _ _
  have F0 : Fr [] w W0 := hW0 ▸ (Fr.refl _ _).alloc _
  have hBc0 : ∀ w', Fr [] W0 w' → ∀ i, w'.cell? ⟨w.heap.size, i, none⟩ = _ := fun w' h i => (hB0.fr0 h).cell i
  have hBr0 := Fr.refl [] W0
  have hnl : ¬ c.cap < (l.length : Int) := by omega
  have HV := Lib.hid hv; clear hv
  go_enter Try.func78, Try.ntmps78
  go_upto_region 2 with (go_at_call 37; refine (memNew_any c hc _).mono ?_; rintro e W1 ⟨bm, bb, bc, rfl, f1, q1, q2, q3, hm1⟩; have hb1 := (hB0.fr0 f1).cell)
  go_upto_region 5 with fail
  go_wp2_with fail
  obtain ⟨i0, hi, hz0, hz1, hz2⟩ := info_parts info_entry
  have z0 := F0.size
  have k1 := hm1.mem.lt
  have k2 := hm1.bank.bank.lt
  have k3 := hm1.bank.cells.lt
  clear hb1
  go_loopw [9, 32] (fun v i wr => LoopSl W1 bm bb bc c l v i wr) (fun _ i _ => l.length - (intOf i).toNat)
  case atStart => exact ⟨0, Nat.zero_le _, rfl, World.ownsRow_nil .., hm1, Fr.refl _ _⟩
  case round =>
    obtain ⟨k, hk, rfl, hown, hmr, hF⟩ := hrel
    by_cases hlt : k < l.length
    · have hlt' : (k : Int) < (l.length : Int) := by omega
      obtain ⟨g, off, cap', hv', hxl, hcell⟩ := SlE.cells HV.out (by omega)
      cases hv'
      have fall : Fr [bb, bc] w wr := ((F0.trans f1).nil).trans hF
      have hck := hcell (· ∈ [bb, bc]) wr (fall.q (fun _ h => h)) (by simp; omega) k _ (enAt_mem hlt)
      have hw := enAt_w he hlt
      have hsn := mineL_succ l k
      have HSN := Lib.hid hsn; clear hsn
      have HW := Lib.hid hw; clear hw
      have HCL := Lib.hid hcell; clear hcell
      generalize enAt l k = x0 at *
      obtain ⟨y0, y1, y2⟩ := x0
      simp only at hck
      obtain ⟨c1, c2, c3⟩ := hck
      have hsum := IntWalk.i64_in ((k : Int) + 1) (by omega)
      have HMl := mineL_length l k
      have HML := Lib.hid HMl; clear HMl
      go_upto_region 8 with fail
      refine name_world fun W2 hW2 => ?_
      have hbx : Blk W2 wr.heap.size #[.int .u64 y0, .int .u64 y1, .int .u64 y2] 146 := hW2 ▸ Blk.new _ _ _
      have f2 : Fr [] wr W2 := hW2 ▸ (Fr.refl _ _).alloc _
      clear hW2 c1 c2 c3
      have hz2' := hF.size
      have hm2 := hmr.fr0 f2
      have hown2 := ownsRow_fr hown f2 (by simp)
      have nxb : wr.heap.size ≠ bb := by omega
      have nxc : wr.heap.size ≠ bc := by omega
      go_upto_region 9 with (first | (go_at_call 87; refine (rTaken_any 0 _ (by omega) (by omega)).mono ?_; rintro e w1 ⟨rfl, rfl⟩) | (go_at_call 136; refine (release_any bm bb bc (slotsM c k) ((k : Int) + 1) (sMeta 1 0) _ hm2 (by decide) (by decide)).mono ?_; rintro e W3 ⟨rfl, f3, hm3⟩))
      have hbx3 := hbx.fr f3 (by simp [nxb, nxc])
      have hown3 := ownsRow_fr hown2 f3 (by intro b hb; simp at hb; omega)
      have hz3 := f3.size
      have lbx := hbx.lt
      have hrown : ∀ b, u9.ownBlock = some b → W1.heap.size ≤ b ∧ b < wr.heap.size := fun b hb => hown.lt b hb
      have hxr : wr.heap.size ∉ u9.ownBlock.toList := by
        intro hm'
        cases ho : u9.ownBlock with
        | none => rw [ho] at hm'; simp at hm'
        | some b => rw [ho] at hm'; simp at hm'; subst hm'; have := hrown _ ho; omega
      have hbw : ∀ w', Fr u9.ownBlock.toList W3 w' → ∀ i, w'.cell? ⟨wr.heap.size, i, none⟩ = _ := fun w' h i => (hbx3.fr h hxr).cell i
      have hrf := Fr.refl u9.ownBlock.toList W3
      go_region_held3 (fun w' => Fr u9.ownBlock.toList W3 w') (repeat (first | with_reducible assumption | with_reducible exact Fr.refl _ _ | with_reducible refine Fr.drew ?_ | (with_reducible refine Fr.setM ?_ ?hm _; case hm => (simp; done)) | (with_reducible refine Fr.setN ?_ ?hn _; case hn => omega) | with_reducible refine Fr.alloc ?_ _ | with_reducible exact Fr.nil (by with_reducible assumption))) (first | (go_at_call 133; refine (rOf_any ((k : Int) + 1) 0 _ (by omega) (by omega) (by omega) (by omega)).mono ?_; rintro e w1 ⟨rfl, rfl⟩) | ((refine step_append_lies _ (by rfl) _ _ _ (by rfl) W1.heap.size 106 i0 (.agg #[.int .u64 0, .int .u64 0, .int .u64 0]) 3 24 Try.underlying121 hi hz0 hz1 hz2 rfl (by decide) u9 k (flatE (mineL l k)) (by rfl) ((hown3.alloc _)) ⟨W3.heap.size, 0, none⟩ 1 1 [.int .u64 (packW ((k : Int) + 1) 0), .int .u64 y1, .int .u64 y2] (by rfl) (by rfl) (cells_new W3 [.int .u64 (packW ((k : Int) + 1) 0), .int .u64 y1, .int .u64 y2] _) (by simp [Value.oneCell']) (by omega) (by unfold maxLen; omega) (by omega) (by show W1.heap.size ≤ _; simp; omega) (W3.heap.size + 1) (by simp) ?_); intro gg gcap W4 hown4 hgr4 hat4 hlt4; have f34 : Fr u9.ownBlock.toList W3 W4 := (((Fr.refl [] W3).alloc (.cells #[.int .u64 (packW ((k : Int) + 1) 0), .int .u64 y1, .int .u64 y2] 106)).drew.nil).trans (Fr.of_grown2 hgr4)))
      have hnr : ∀ b, b < W1.heap.size → b ∉ u9.ownBlock.toList := by
        intro b hb hm'
        cases ho : u9.ownBlock with
        | none => rw [ho] at hm'; simp at hm'
        | some g => rw [ho] at hm'; simp at hm'; subst hm'; have := hrown _ ho; omega
      have hm4 : MemAt W4 bm bb bc (slotsM c (k + 1)) := hm3.fr f34 (hnr _ k1) (hnr _ k2) (hnr _ k3)
      have F4 : Fr [bb, bc] W1 W4 := Fr.grown (((hF.trans f2.nil).trans f3).alloc (.cells #[.int .u64 (packW ((k : Int) + 1) 0), .int .u64 y1, .int .u64 y2] 106)).drew hgr4 (fun b hb => (hrown b hb).1)
      have hown5 : W4.ownsRow W1.heap.size 106 3 (.slice (some ⟨gg, 0, none⟩) (k + 1) gcap) (k + 1) (flatE (mineL l (k + 1))) := by
        rw [HSN.out, flatE_append]; exact hown4
      clear hgr4 hown4 hown3 hown2 hown hbw hrf hmr hm2 hm3 f34
      go_wp2_with fail
      go_roundw
      case rel => exact ⟨k + 1, hlt, by simp, hown5, hm4, F4⟩
      case measure => simp [intOf]; omega
    · have hkl : k = l.length := by omega
      subst hkl
      have hlt' : ¬ ((l.length : Nat) : Int) < ((l.length : Nat) : Int) := by omega
      go_wp2_with fail
      go_ret3
      have hr := RowE.own hown (mineL_length _ _).symm
      refine ⟨bm, bb, bc, _, rfl, Fr.hide (F0.trans f1) hF (by simp; omega), by omega, by omega, by omega, hmr, RowE.mono hr (fun b hb => ?_)⟩
      have := hown.lt b hb
      omega
end Go.Proofs.Ytaddjigmdeejlaa
