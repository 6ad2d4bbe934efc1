/- Contracts of package cover: entries told apart; clones of slices. -/
import Derived.Test.YtaddjigmdeejlaaCover
import Derived.Maps.AppendAt
namespace Go.Proofs.Ytaddjigmdeejlaa
open Go.RowKit Go.Ss

theorem info_entry : (Try.prog.info? 106).map (fun i => (i.zero, i.size, i.bytes)) = some (some (.agg #[.int .u64 0, .int .u64 0, .int .u64 0]), 3, 24) := by kernel_rfl

set_option maxRecDepth 100000 in
theorem split1_any {P : Nat → Prop} (x : En) (v : Value) (l : List Int) (p : Nat) (w : World) (hp : Blk w p #[v] 24) (hs : SlP P w v l) (hl : l.length ≤ 1000) :
    Calls Try.prog 190 #[.agg #[.int .u64 x.node, .int .u64 x.birth, .int .u64 x.retired], .pointer (some ⟨p, 0, none⟩)] w fun e w' => e = .returned (.bool (cov x l)) ∧ Fr [] w w' := by
  obtain ⟨a, cap, rfl⟩ := SlP.form2 hs
  obtain ⟨W0, hW0⟩ : ∃ W, w.alloc (.cells #[.int .u64 x.node, .int .u64 x.birth, .int .u64 x.retired] 106) = W := ⟨_, rfl⟩
  have hB0 : Blk W0 w.heap.size #[.int .u64 x.node, .int .u64 x.birth, .int .u64 x.retired] 106 := hW0 ▸ Blk.new _ _ _
  have F0 : Fr [] w W0 := hW0 ▸ (Fr.refl _ _).alloc _
  have hBc0 : ∀ w', Fr [] W0 w' → ∀ i, w'.cell? ⟨w.heap.size, i, none⟩ = _ := fun w' h i => (hB0.fr0 h).cell i
  have hBr0 := Fr.refl [] W0
  have hs0 := SlP.fr0 hs F0
  have hp0 := (hp.fr0 F0).cell
  have hb0 := hB0.cell
  clear hBc0 hBr0
  go_enter Try.func190, Try.ntmps190
  go_wp2_with (go_at_call 86; refine (covered_any x _ l _ hs0 hl).mono ?_; rintro e w1 ⟨rfl, hf⟩)
  go_ret
  exact ⟨rfl, F0.trans hf⟩

theorem cells_new (w : World) (cs : List Value) (T : Nat) : ∀ j u, cs[j]? = some u → (w.alloc (.cells cs.toArray T)).cell? ((⟨w.heap.size, 0, none⟩ : Addr).add j) = some u := by
  intro j u h
  have e : (⟨w.heap.size, 0, none⟩ : Addr).add j = ⟨w.heap.size, j, none⟩ := by unfold Addr.add; split <;> simp_all
  rw [e, (Blk.new w cs.toArray T).cell]; simpa using h
theorem ownsRow_base {w : World} {base base' e size n : Nat} {v : Value} {xs : List Value} (h : w.ownsRow base e size v n xs) (hb : base' ≤ base) : w.ownsRow base' e size v n xs := by
  obtain ⟨h1, h2⟩ := h
  refine ⟨h1, ?_⟩
  rcases h2 with h2 | ⟨g, cap, cur, hv, hbg, hr⟩
  · exact .inl h2
  · exact .inr ⟨g, cap, cur, hv, by omega, hr⟩
theorem keep_snoc (l : List En) (x : En) (s : List Int) : keep (l ++ [x]) s = keep l s ++ (if cov x s = true then [x] else []) := by
  unfold keep; rw [List.filter_append]; simp [List.filter_cons]
theorem drop_snoc (l : List En) (x : En) (s : List Int) : drop_ (l ++ [x]) s = drop_ l s ++ (if cov x s = true then [] else [x]) := by
  unfold drop_; rw [List.filter_append]; cases h : cov x s <;> simp [h]
theorem keep_le (l : List En) (s : List Int) : (keep l s).length ≤ l.length := List.length_filter_le _ _
theorem drop_le (l : List En) (s : List Int) : (drop_ l s).length ≤ l.length := List.length_filter_le _ _

def Apart (w wr : World) (v1 v2 : Value) (a b : List En) : Prop :=
  wr.ownsRow w.heap.size 106 3 v1 a.length (flatE a) ∧ wr.ownsRow w.heap.size 106 3 v2 b.length (flatE b) ∧ (∀ g, v1.ownBlock = some g → v2.ownBlock ≠ some g)
def LoopP (w : World) (l : List En) (s : List Int) (y n i : Value) (wr : World) : Prop :=
  ∃ k : Nat, k ≤ l.length ∧ i = .int .i64 k ∧ Apart w wr y n (keep (l.take k) s) (drop_ (l.take k) s) ∧ Fr [] w wr
def ApartOut (l : List En) (s : List Int) (w : World) (e : Ending) (w' : World) : Prop :=
  ∃ v1 v2, e = .returned (.tuple #[v1, v2]) ∧ Apart w w' v1 v2 (keep l s) (drop_ l s) ∧ Fr [] w w'

set_option maxRecDepth 100000 in
set_option maxHeartbeats 1000000 in
theorem apart_any {P R : Nat → Prop} (vl : Value) (l : List En) (v : Value) (s : List Int) (p : Nat) (w : World) (hr : RowE R w vl l) (hl : l.length ≤ 1000) (hp : Blk w p #[v] 24) (hs : SlP P w v s) (hsl : s.length ≤ 1000) :
    Calls Try.prog 189 #[vl, .func (.func 190) #[] #[.pointer (some ⟨p, 0, none⟩)]] w (ApartOut l s w) := by
  obtain ⟨a, cap, rfl⟩ := RowE.form hr
  have HR := Lib.hid hr; clear hr
  have HS := Lib.hid hs; clear hs
  obtain ⟨i0, hi, hz0, hz1, hz2'⟩ := info_parts info_entry
  go_enter Try.func189, Try.ntmps189
  go_wp2_with fail
  go_loopw [6, 7, 12] (fun y n i wr => LoopP w l s y n i wr) (fun _ _ i _ => l.length - (intOf i).toNat)
  case atStart => exact ⟨0, Nat.zero_le _, rfl, ⟨World.ownsRow_nil .., World.ownsRow_nil .., fun g h => by simp [Value.ownBlock] at h⟩, Fr.refl _ _⟩
  case round =>
    obtain ⟨k, hk, rfl, ⟨hy, hn, hne⟩, hF⟩ := hrel
    by_cases hlt : k < l.length
    · obtain ⟨g, off, cap', hv, hP, hg, _, _, hcell⟩ := RowE.cells HR.out (by omega)
      cases hv
      have hck := hcell k _ (List.getElem?_eq_getElem hlt) _ wr (hF.q0 (Q := fun _ => False)) (by simp)
      have hlt' : (k : Int) < (l.length : Int) := by omega
      have hsum := IntWalk.i64_in ((k : Int) + 1) (by omega)
      have hkn := keep_snoc (l.take k) l[k] s
      have hdn := drop_snoc (l.take k) l[k] s
      rw [← List.take_succ_eq_append_getElem hlt] at hkn hdn
      have hk1 := keep_le (l.take k) s
      have hd1 := drop_le (l.take k) s
      have hk2 : (l.take k).length ≤ 1000 := by rw [List.length_take]; omega
      have HT := Lib.hid hk2; clear hk2
      generalize keep (l.take k) s = A at *
      generalize drop_ (l.take k) s = B at *
      obtain ⟨x, hx⟩ : ∃ x, l[k] = x := ⟨_, rfl⟩
      rw [hx] at hck hkn hdn
      have HX := Lib.hid hx; clear hx
      have HK := Lib.hid hkn; clear hkn
      have HD := Lib.hid hdn; clear hdn
      have hA : A.length ≤ 1000 := by have := HT.out; omega
      have hB : B.length ≤ 1000 := by have := HT.out; omega
      have hpr := (hp.fr0 (hF.alloc (.cells #[.int .u64 x.node, .int .u64 x.birth, .int .u64 x.retired] 106)))
      have hsr := SlP.fr0 HS.out (hF.alloc (.cells #[.int .u64 x.node, .int .u64 x.birth, .int .u64 x.retired] 106))
      have hbx := Blk.new wr #[.int .u64 x.node, .int .u64 x.birth, .int .u64 x.retired] 106
      have hFx : Fr [] w (wr.alloc (.cells #[.int .u64 x.node, .int .u64 x.birth, .int .u64 x.retired] 106)) := hF.alloc _
      have hbz : w.heap.size ≤ wr.heap.size := hF.size
      have hyx := hy.alloc (.cells #[.int .u64 x.node, .int .u64 x.birth, .int .u64 x.retired] 106)
      have hnx := hn.alloc (.cells #[.int .u64 x.node, .int .u64 x.birth, .int .u64 x.retired] 106)
      clear hy hn
      go_upto_region 5 with fail
      refine name_world fun W1 hW1 => ?_
      rw [hW1] at hpr hsr hbx hFx hyx hnx
      have hzz1 : w.heap.size ≤ W1.heap.size := hFx.size
      have hwz : wr.heap.size < W1.heap.size := hbx.lt
      clear hW1 hck
      have hbxc := hbx.cell
      cases hcv : cov x s
      · have hd : cov x s = false := hcv
        go_wp2_with (first | (go_at_call 190; refine (split1_any x v s p _ hpr hsr hsl).mono ?_; rintro e W2 ⟨rfl, f2⟩; have hbx2 := hbx.fr0 f2; have hbx2c := hbx2.cell; have hyx2 := ownsRow_fr hyx f2 (by simp); have hnx2 := ownsRow_fr hnx f2 (by simp); have hz2 : w.heap.size ≤ W2.heap.size := Nat.le_trans hzz1 f2.size) | (at_builtin; go_loud (refine wpList_append_own_at _ rfl _ _ 121 rfl w.heap.size 106 i0 (.agg #[.int .u64 0, .int .u64 0, .int .u64 0]) 3 24 Try.underlying121 hi hz0 hz1 hz2' rfl (by decide) _ B.length _ rfl (hnx2.alloc _) ⟨W2.heap.size, 0, none⟩ 1 1 (enV x) rfl rfl ?c1 ?c2 ?c3 ?c4 ?c5 ?_)))
        case c1 => exact cells_new _ _ _
        case c2 => simp [enV, Value.oneCell']
        case c3 => unfold maxLen; omega
        case c4 => omega
        case c5 => simp; omega
        intro v4 W4 hown4 hgr4 _ hat4
        have hrow := fun k h => (hnx2.lt k h).1
        have hFW := hFx.trans f2
        have F4 : Fr [] w W4 := Fr.grown (hFW.alloc _) hgr4 hrow
        have hoth : u6.ownBlock = none ∨ u6.ownBlock ≠ u7.ownBlock := by
          cases hob : u6.ownBlock with
          | none => exact .inl rfl
          | some g => right; intro he; exact (hne g hob he.symm)
        have hkeep := (hyx2.alloc (.cells (enV x).toArray 106)).kept hgr4 hoth
        have hne4 : ∀ g, u6.ownBlock = some g → v4.ownBlock ≠ some g := by
          intro g hg hg'
          rcases hat4 with ha | ha
          · rw [ha] at hg'; exact hne g hg hg'
          · rw [ha] at hg'
            have := (hyx2.lt g hg).2
            simp at hg'; omega
        replace hown4 : W4.ownsRow w.heap.size 106 3 v4 (B ++ [x]).length (flatE (B ++ [x])) := by
          rw [flatE_append, List.length_append]; exact hown4
        clear hgr4 hat4 hyx hnx hrow hpr hsr
        go_wp2_with fail
        go_roundw
        case rel =>
          refine ⟨k + 1, hlt, by simp, ?_, F4⟩
          rw [HK.out, HD.out, hd]
          simpa using ⟨hkeep, hown4, hne4⟩
        case measure => simp [intOf]; omega
      · have hd : cov x s = true := hcv
        go_wp2_with (first | (go_at_call 190; refine (split1_any x v s p _ hpr hsr hsl).mono ?_; rintro e W2 ⟨rfl, f2⟩; have hbx2 := hbx.fr0 f2; have hbx2c := hbx2.cell; have hyx2 := ownsRow_fr hyx f2 (by simp); have hnx2 := ownsRow_fr hnx f2 (by simp); have hz2 : w.heap.size ≤ W2.heap.size := Nat.le_trans hzz1 f2.size) | (at_builtin; go_loud (refine wpList_append_own_at _ rfl _ _ 121 rfl w.heap.size 106 i0 (.agg #[.int .u64 0, .int .u64 0, .int .u64 0]) 3 24 Try.underlying121 hi hz0 hz1 hz2' rfl (by decide) _ A.length _ rfl (hyx2.alloc _) ⟨W2.heap.size, 0, none⟩ 1 1 (enV x) rfl rfl ?c1 ?c2 ?c3 ?c4 ?c5 ?_)))
        case c1 => exact cells_new _ _ _
        case c2 => simp [enV, Value.oneCell']
        case c3 => unfold maxLen; omega
        case c4 => omega
        case c5 => simp; omega
        intro v4 W4 hown4 hgr4 _ hat4
        have hrow := fun k h => (hyx2.lt k h).1
        have hFW := hFx.trans f2
        have F4 : Fr [] w W4 := Fr.grown (hFW.alloc _) hgr4 hrow
        have hoth : u7.ownBlock = none ∨ u7.ownBlock ≠ u6.ownBlock := by
          cases hob : u7.ownBlock with
          | none => exact .inl rfl
          | some g => right; intro he; exact (hne _ he.symm hob)
        have hkeep := (hnx2.alloc (.cells (enV x).toArray 106)).kept hgr4 hoth
        have hne4 : ∀ g, v4.ownBlock = some g → u7.ownBlock ≠ some g := by
          intro g hg hg'
          rcases hat4 with ha | ha
          · rw [ha] at hg; exact hne g hg hg'
          · rw [ha] at hg
            have := (hnx2.lt g hg').2
            simp at hg; omega
        replace hown4 : W4.ownsRow w.heap.size 106 3 v4 (A ++ [x]).length (flatE (A ++ [x])) := by
          rw [flatE_append, List.length_append]; exact hown4
        clear hgr4 hat4 hyx hnx hrow hpr hsr
        go_wp2_with fail
        go_roundw
        case rel =>
          refine ⟨k + 1, hlt, by simp, ?_, F4⟩
          rw [HK.out, HD.out, hd]
          simpa using ⟨hown4, hkeep, hne4⟩
        case measure => simp [intOf]; omega
    · have hkl : k = l.length := by omega
      subst hkl
      have hlt' : ¬ ((l.length : Nat) : Int) < ((l.length : Nat) : Int) := by omega
      go_wp2_with fail
      go_ret2
      rw [List.take_length] at hy hn
      exact ⟨_, _, rfl, ⟨hy, hn, hne⟩, hF⟩

set_option maxRecDepth 100000 in
theorem split_any {P R : Nat → Prop} (vl : Value) (l : List En) (v : Value) (s : List Int) (w : World) (hr : RowE R w vl l) (hl : l.length ≤ 1000) (hs : SlP P w v s) (hsl : s.length ≤ 1000) :
    Calls Try.prog 183 #[vl, v] w (ApartOut l s w) := by
  obtain ⟨a, cap, rfl⟩ := SlP.form2 hs
  obtain ⟨W0, hW0⟩ : ∃ W, w.alloc (.cells #[.slice a s.length cap] 24) = W := ⟨_, rfl⟩
  have hB0 : Blk W0 w.heap.size #[.slice a s.length cap] 24 := hW0 ▸ Blk.new _ _ _
  have F0 : Fr [] w W0 := hW0 ▸ (Fr.refl _ _).alloc _
  have hBc0 : ∀ w', Fr [] W0 w' → ∀ i, w'.cell? ⟨w.heap.size, i, none⟩ = _ := fun w' h i => (hB0.fr0 h).cell i
  have hBr0 := Fr.refl [] W0
  have hs0 := SlP.fr0 hs F0
  have hr0 := RowE.fr0 hr F0
  obtain ⟨a', cap', rfl⟩ := RowE.form hr
  have z0 := F0.size
  clear hBc0 hBr0
  go_enter Try.func183, Try.ntmps183
  go_wp2_with (go_at_call 189; refine (apart_any _ l _ s _ _ hr0 hl hB0 hs0 hsl).mono ?_; rintro e w1 ⟨v1, v2, rfl, ⟨h1, h2, h3⟩, hf⟩)
  go_ret2
  exact ⟨v1, v2, rfl, ⟨ownsRow_base h1 z0, ownsRow_base h2 z0, h3⟩, F0.trans hf⟩
end Go.Proofs.Ytaddjigmdeejlaa
