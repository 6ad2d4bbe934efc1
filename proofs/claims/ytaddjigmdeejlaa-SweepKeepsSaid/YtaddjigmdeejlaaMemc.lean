/- Worlds that are made. -/
import Derived.Test.YtaddjigmdeejlaaMemb
import Derived.Deep.Cut
namespace Go.Proofs.Ytaddjigmdeejlaa
open Go.RowKit Go.Ss

theorem Blk.setWord {w : World} {b T : Nat} {l : List Int} (h : Blk w b (l.map (Value.int .u64)).toArray T) (i v : Int) : Blk (w.setCell ⟨b, i.toNat, none⟩ (.int .u64 v)) b ((setI l i v).map (Value.int .u64)).toArray T := by
  have := h.setCell i.toNat (.int .u64 v)
  unfold setI; rw [List.map_set]
  rw [List.setIfInBounds_toArray] at this
  exact this

def NewMem (c : Cfg) (l : List Int) (w : World) (e : Ending) (w' : World) : Prop :=
  ∃ bm bb bc : Nat, e = .returned (.tuple #[.pointer (some ⟨bm, 0, none⟩), .int .i64 0]) ∧ Fr [] w w' ∧ w.heap.size ≤ bm ∧ w.heap.size ≤ bb ∧ w.heap.size ≤ bc ∧ MemAt w' bm bb bc ⟨c, ⟨l, 0, Ss.Acc.zero⟩⟩

set_option maxRecDepth 100000 in
theorem memOf_any (c : Cfg) (hc : c.R) (l : List Int) (ad : Addr) (cap : Nat) (w : World) (hs : SrcAt w ad l) (hlt : ad.block < w.heap.size) (hl : (l.length : Int) = c.len) (hw : Ws l) :
    Calls Try.prog 26 #[.agg #[.int .i64 c.threads, .int .i64 c.slots, .int .i64 c.cap, .int .i64 c.height, .int .i64 c.keep, .int .i64 c.every, .int .i64 c.last], .slice (some ad) l.length cap] w (NewMem c l w) := by
  have hr := (Cfg.rB_iff c).2 hc
  have hb := hc.len_bd
  have hl1 : l.length ≤ 100000 := by omega
  obtain ⟨W0, hW0⟩ : ∃ W, w.alloc (.cells #[.int .i64 c.threads, .int .i64 c.slots, .int .i64 c.cap, .int .i64 c.height, .int .i64 c.keep, .int .i64 c.every, .int .i64 c.last] 23) = W := ⟨_, rfl⟩
  have hB0 : Blk W0 w.heap.size #[.int .i64 c.threads, .int .i64 c.slots, .int .i64 c.cap, .int .i64 c.height, .int .i64 c.keep, .int .i64 c.every, .int .i64 c.last] 23 := hW0 ▸ Blk.new _ _ _
  have F0 : Fr [] w W0 := hW0 ▸ (Fr.refl _ _).alloc _
  have hBc0 : ∀ w', Fr [] W0 w' → ∀ i, w'.cell? ⟨w.heap.size, i, none⟩ = _ := fun w' h i => (hB0.fr0 h).cell i
  have hBr0 := Fr.refl [] W0
  have hs0 : ∀ w', Fr [] W0 w' → SrcAt w' ad l := fun w' h => (hs.fr F0 (by simp) hlt).fr h (by simp) (Nat.lt_of_lt_of_le hlt F0.size)
  have hlt0 : ∀ w', Fr [] W0 w' → ad.block < w'.heap.size := fun w' h => Nat.lt_of_lt_of_le hlt (Nat.le_trans F0.size h.size)
  have hd : ((l.length : Int) != c.len) = false := by rw [hl]; simp
  go_enter Try.func26, Try.ntmps26
  go_wp2_with (first | (go_at_call 104; refine (right_any c _).mono ?_; rintro e w1 ⟨rfl, hf⟩; replace hf : Fr [] W0 w1 := Fr.trans (by (first | assumption | exact Fr.refl _ _ | exact (Fr.refl _ _).drew | exact Fr.drew (by assumption))) hf) | (go_at_call 105; refine (len_any c hc _).mono ?_; rintro e w1 ⟨rfl, hf⟩; replace hf : Fr [] W0 w1 := Fr.trans (by (first | assumption | exact Fr.refl _ _ | exact (Fr.refl _ _).drew | exact Fr.drew (by assumption))) hf))
  go_region_held3 (fun w' => Fr [] W0 w') (repeat (first | assumption | exact Fr.refl _ _ | refine Fr.drew ?_ | refine Fr.set1 ?_ _ | refine Fr.alloc ?_ _ | refine Fr.drewN ?_ _ | exact Fr.nil (by assumption))) (first | (go_at_call 106; refine (bankOf_any l ad cap _ (hs0 _ (by (first | assumption | exact Fr.refl _ _ | exact (Fr.refl _ _).drew | exact Fr.drew (by assumption)))) (hlt0 _ (by (first | assumption | exact Fr.refl _ _ | exact (Fr.refl _ _).drew | exact Fr.drew (by assumption)))) hl1 hw).mono ?_; rintro e w2 ⟨bb, bc, rfl, hf, g1, g2, hbk⟩; have hf0 : Fr [] W0 _ := (by (first | assumption | exact Fr.refl _ _ | exact (Fr.refl _ _).drew | exact Fr.drew (by assumption))); replace hf : Fr [] W0 w2 := Fr.trans hf0 hf))
  go_wp2_with fail
  go_ret2
  have q1 := F0.size
  have q2 := hf0.size
  have q3 := hf.size
  have hlb := hbk.bank.lt
  have hlc := hbk.cells.lt
  have hall : MemAt (w2.alloc (.cells #[.int .i64 c.threads, .int .i64 c.slots, .int .i64 c.cap, .int .i64 c.height, .int .i64 c.keep, .int .i64 c.every, .int .i64 c.last, .pointer (some ⟨bb, 0, none⟩)] 156)) w2.heap.size bb bc ⟨c, ⟨l, 0, Ss.Acc.zero⟩⟩ :=
    ⟨Blk.new _ _ _, hbk.fr0 ((Fr.refl _ _).alloc _), by omega, by omega, ⟨hc, hl, hw⟩⟩
  exact ⟨w2.heap.size, bb, bc, rfl, (F0.trans hf).alloc _, by omega, by omega, by omega, hall⟩

set_option maxRecDepth 100000 in
theorem memOf_bad (c : Cfg) (v : Value) (a : Option Addr) (n cap : Nat) (hv : v = .slice a n cap) (hbad : ¬ (c.R ∧ (n : Int) = c.len)) (w : World) :
    Calls Try.prog 26 #[.agg #[.int .i64 c.threads, .int .i64 c.slots, .int .i64 c.cap, .int .i64 c.height, .int .i64 c.keep, .int .i64 c.every, .int .i64 c.last], v] w fun e w' => e = .returned (.tuple #[.pointer none, .int .i64 1]) ∧ Fr [] w w' := by
  subst hv
  obtain ⟨W0, hW0⟩ : ∃ W, w.alloc (.cells #[.int .i64 c.threads, .int .i64 c.slots, .int .i64 c.cap, .int .i64 c.height, .int .i64 c.keep, .int .i64 c.every, .int .i64 c.last] 23) = W := ⟨_, rfl⟩
  have hB0 : Blk W0 w.heap.size #[.int .i64 c.threads, .int .i64 c.slots, .int .i64 c.cap, .int .i64 c.height, .int .i64 c.keep, .int .i64 c.every, .int .i64 c.last] 23 := hW0 ▸ Blk.new _ _ _
  have F0 : Fr [] w W0 := hW0 ▸ (Fr.refl _ _).alloc _
  have hBc0 : ∀ w', Fr [] W0 w' → ∀ i, w'.cell? ⟨w.heap.size, i, none⟩ = _ := fun w' h i => (hB0.fr0 h).cell i
  have hBr0 := Fr.refl [] W0
  by_cases hc : c.R
  · have hr := (Cfg.rB_iff c).2 hc
    have hd : ((n : Int) != c.len) = true := by rw [bne_iff_ne]; exact fun h => hbad ⟨hc, h⟩
    go_enter Try.func26, Try.ntmps26
    go_wp2_with (first | (go_at_call 104; refine (right_any c _).mono ?_; rintro e w1 ⟨rfl, hf⟩; replace hf : Fr [] W0 w1 := Fr.trans (by (first | assumption | exact Fr.refl _ _ | exact (Fr.refl _ _).drew | exact Fr.drew (by assumption))) hf) | (go_at_call 105; refine (len_any c hc _).mono ?_; rintro e w1 ⟨rfl, hf⟩; replace hf : Fr [] W0 w1 := Fr.trans (by (first | assumption | exact Fr.refl _ _ | exact (Fr.refl _ _).drew | exact Fr.drew (by assumption))) hf))
    go_ret2
    exact ⟨rfl, F0.trans (by assumption)⟩
  · have hr : c.rB = false := by rw [← Bool.not_eq_true, Cfg.rB_iff]; exact hc
    go_enter Try.func26, Try.ntmps26
    go_wp2_with (first | (go_at_call 104; refine (right_any c _).mono ?_; rintro e w1 ⟨rfl, hf⟩; replace hf : Fr [] W0 w1 := Fr.trans (by (first | assumption | exact Fr.refl _ _ | exact (Fr.refl _ _).drew | exact Fr.drew (by assumption))) hf))
    go_ret2
    exact ⟨rfl, F0.trans (by assumption)⟩

def newCells (c : Cfg) : List Int := setI (setI (setI (List.replicate c.len.toNat 0) 0 1) (c.cell 0 0) 1) (c.cell 0 4) c.height

theorem memNew_bad (c : Cfg) (hbad : ¬ c.R) (w : World) :
    Calls Try.prog 37 #[.agg #[.int .i64 c.threads, .int .i64 c.slots, .int .i64 c.cap, .int .i64 c.height, .int .i64 c.keep, .int .i64 c.every, .int .i64 c.last]] w fun e w' => e = .returned (.tuple #[.pointer none, .int .i64 1]) ∧ Fr [] w w' := by
  obtain ⟨W0, hW0⟩ : ∃ W, w.alloc (.cells #[.int .i64 c.threads, .int .i64 c.slots, .int .i64 c.cap, .int .i64 c.height, .int .i64 c.keep, .int .i64 c.every, .int .i64 c.last] 23) = W := ⟨_, rfl⟩
  have hB0 : Blk W0 w.heap.size #[.int .i64 c.threads, .int .i64 c.slots, .int .i64 c.cap, .int .i64 c.height, .int .i64 c.keep, .int .i64 c.every, .int .i64 c.last] 23 := hW0 ▸ Blk.new _ _ _
  have F0 : Fr [] w W0 := hW0 ▸ (Fr.refl _ _).alloc _
  have hBc0 : ∀ w', Fr [] W0 w' → ∀ i, w'.cell? ⟨w.heap.size, i, none⟩ = _ := fun w' h i => (hB0.fr0 h).cell i
  have hBr0 := Fr.refl [] W0
  have hr : c.rB = false := by rw [← Bool.not_eq_true, Cfg.rB_iff]; exact hbad
  go_enter Try.func37, Try.ntmps37
  go_wp2_with (first | (go_at_call 104; refine (right_any c _).mono ?_; rintro e w1 ⟨rfl, hf⟩; replace hf : Fr [] W0 w1 := Fr.trans (by (first | assumption | exact Fr.refl _ _ | exact (Fr.refl _ _).drew | exact Fr.drew (by assumption))) hf))
  go_ret2
  exact ⟨rfl, F0.trans (by assumption)⟩

theorem cell_head {c : Cfg} (hc : c.R) (f : Int) (h0 : 0 ≤ f) (h1 : f < c.fields) : c.cell 0 f = c.first + f := by
  unfold Cfg.cell; rw [if_pos ⟨Int.le_refl _, by have := hc.c0; omega, h0, h1⟩]; omega

set_option maxRecDepth 100000 in
theorem memNew_any (c : Cfg) (hc : c.R) (w : World) :
    Calls Try.prog 37 #[.agg #[.int .i64 c.threads, .int .i64 c.slots, .int .i64 c.cap, .int .i64 c.height, .int .i64 c.keep, .int .i64 c.every, .int .i64 c.last]] w (NewMem c (newCells c) w) := by
  have hr := (Cfg.rB_iff c).2 hc
  have hb := hc.len_bd
  obtain ⟨n, hn⟩ : ∃ n : Nat, c.len = n := ⟨c.len.toNat, by omega⟩
  have hlen : ∀ w, Calls Try.prog 105 #[.agg #[.int .i64 c.threads, .int .i64 c.slots, .int .i64 c.cap, .int .i64 c.height, .int .i64 c.keep, .int .i64 c.every, .int .i64 c.last]] w fun e w' => e = .returned (.int .i64 (n : Int)) ∧ Fr [] w w' := fun w => by
    have := len_any c hc w; rw [hn] at this; exact this
  have hmk := run_make_words n (by omega)
  have e0 := cell_head hc 0 (by omega) (by have := hc.fields_bd; omega)
  have e4 := cell_head hc 4 (by omega) (by have := hc.fields_bd; omega)
  have hf1 := hc.first_bd
  have hlt4 := hc.cell_bd 0 4
  obtain ⟨W0, hW0⟩ : ∃ W, w.alloc (.cells #[.int .i64 c.threads, .int .i64 c.slots, .int .i64 c.cap, .int .i64 c.height, .int .i64 c.keep, .int .i64 c.every, .int .i64 c.last] 23) = W := ⟨_, rfl⟩
  have hB0 : Blk W0 w.heap.size #[.int .i64 c.threads, .int .i64 c.slots, .int .i64 c.cap, .int .i64 c.height, .int .i64 c.keep, .int .i64 c.every, .int .i64 c.last] 23 := hW0 ▸ Blk.new _ _ _
  have F0 : Fr [] w W0 := hW0 ▸ (Fr.refl _ _).alloc _
  have hBc0 : ∀ w', Fr [] W0 w' → ∀ i, w'.cell? ⟨w.heap.size, i, none⟩ = _ := fun w' h i => (hB0.fr0 h).cell i
  have hBr0 := Fr.refl [] W0
  have HN := Lib.hid hn; clear hn
  have HL := Lib.hid hlen; clear hlen
  have E0 := Lib.hid e0; clear e0
  have E4 := Lib.hid e4; clear e4
  have hz0 : (zeros (.int .u64 0) n)[0]? = some (.int .u64 0) := by unfold zeros; rw [List.getElem?_toArray, List.getElem?_replicate, if_pos (by have := HN.out; omega)]
  go_enter Try.func37, Try.ntmps37
  go_upto_region 4 with (first | (go_at_call 104; refine (right_any c _).mono ?_; rintro e w1 ⟨rfl, hf⟩; replace hf : Fr [] W0 w1 := Fr.trans (by (first | assumption | exact Fr.refl _ _ | exact (Fr.refl _ _).drew | exact Fr.drew (by assumption))) hf) | (go_at_call 105; refine (HL.out _).mono ?_; rintro e w1 ⟨rfl, hf⟩; replace hf : Fr [] W0 w1 := Fr.trans (by (first | assumption | exact Fr.refl _ _ | exact (Fr.refl _ _).drew | exact Fr.drew (by assumption))) hf))
  obtain ⟨W1, hW1⟩ : ∃ W, w1.alloc (.cells (zeros (.int .u64 0) n) 26) = W := ⟨_, rfl⟩
  rw [hW1]
  have hk : Blk W1 w1.heap.size ((List.replicate n (0 : Int)).map (Value.int .u64)).toArray 26 := by
    have := Blk.new w1 (zeros (.int .u64 0) n) 26
    rw [hW1] at this; simpa [zeros] using this
  have F1 : Fr [] W0 W1 := hW1 ▸ hf.alloc _
  have hkN : W0.heap.size ≤ w1.heap.size := hf.size
  clear hW1 hmk hz0
  generalize w1.heap.size = k at *
  have hn := HN.out
  have hn16 : 16 ≤ n := by omega
  have hn16' : (16 : Int) ≤ (n : Int) := by omega
  have hk0 : W1.cell? ⟨k, 0, none⟩ = some (.int .u64 (getI (List.replicate n (0 : Int)) 0)) := (hk.cell 0).trans (words_get _ 0 (by omega) (by simp; omega))
  have hkz := hk.frozen
  clear hn
  go_upto_region 5 with fail
  obtain ⟨W2, hW2⟩ : ∃ W, W1.setCell ⟨k, 0, none⟩ (.int .u64 1) = W := ⟨_, rfl⟩
  rw [hW2]
  have hk2 : Blk W2 k ((setI (List.replicate n (0 : Int)) 0 1).map (Value.int .u64)).toArray 26 := hW2 ▸ Blk.setWord hk 0 1
  have F2 : Fr [] W0 W2 := hW2 ▸ F1.setN hkN _
  clear hk0 hkz hW2 hk
  generalize hl1 : setI (List.replicate n (0 : Int)) 0 1 = l1 at *
  have hlen1 : l1.length = n := by rw [← hl1]; simp [setI_length]
  have HL1 := Lib.hid hl1; clear hl1
  have hn := HN.out
  have E0' := E0.out
  have E4' := E4.out
  have hk0 : ∀ w', Fr [] W2 w' → w'.cell? ⟨k, (c.cell 0 0).toNat, none⟩ = some (.int .u64 (getI l1 (c.cell 0 0))) := fun w' h => ((hk2.fr0 h).cell _).trans (words_get _ _ (by omega) (by omega))
  have hkz : ∀ w', Fr [] W2 w' → ∀ i, w'.frozen? ⟨k, i, none⟩ = false := fun w' h => (hk2.fr0 h).frozen
  have b0 : 0 ≤ c.cell 0 0 := by omega
  have b1 : c.cell 0 0 < (n : Int) := by omega
  have b2 : 0 ≤ c.cell 0 4 := by omega
  have b3 : c.cell 0 4 < (n : Int) := by omega
  have hB2 : ∀ w', Fr [] W2 w' → ∀ i, w'.cell? ⟨w.heap.size, i, none⟩ = _ := fun w' h i => ((hB0.fr0 F2).fr0 h).cell i
  have hR2 := Fr.refl [] W2
  have HLEN := Lib.hid hlen1
  clear hBc0 hBr0 hn E0' E4' hlen1
  go_upto_region 6 with (first | (go_at_call 77; refine (cell_any c hc 0 0 _).mono ?_; rintro e w1 ⟨rfl, hf⟩; replace hf : Fr [] W2 w1 := Fr.trans (by (first | assumption | exact Fr.refl _ _ | exact (Fr.refl _ _).drew | exact Fr.drew (by assumption))) hf) | (go_at_call 110; refine (meta_any 1 0 _ (by omega) (by omega) (by omega) (by omega)).mono ?_; rintro e w1 ⟨rfl, hf⟩; replace hf : Fr [] W2 w1 := Fr.trans (by (first | assumption | exact Fr.refl _ _ | exact (Fr.refl _ _).drew | exact Fr.drew (by assumption))) hf))
  have hkw := Blk.setWord (hk2.fr0 hf) (c.cell 0 0) (sMeta 1 0)
  obtain ⟨W3, hW3⟩ : ∃ W, w1.setCell ⟨k, (c.cell 0 0).toNat, none⟩ (.int .u64 (sMeta 1 0)) = W := ⟨_, rfl⟩
  rw [hW3] at hkw ⊢
  have hNk : w.heap.size ≠ k := by have := hB0.lt; omega
  have F3 : Fr [] W0 W3 := hW3 ▸ (F2.trans hf).setN hkN _
  have hb3 : Blk W3 w.heap.size _ _ := hB0.fr0 F3
  have hB3 : ∀ w', Fr [k] W3 w' → ∀ i, w'.cell? ⟨w.heap.size, i, none⟩ = _ := fun w' h i => (hb3.fr h (by simpa using hNk)).cell i
  clear hB2 hR2 hk0 hkz hk2 hW3 F2 hf
  generalize hl2 : setI l1 (c.cell 0 0) (sMeta 1 0) = l2 at *
  have hlen2 : l2.length = n := by rw [← hl2, setI_length]; exact HLEN.out
  have hn := HN.out
  have hk0 : ∀ w', Fr [] W3 w' → w'.cell? ⟨k, (c.cell 0 4).toNat, none⟩ = some (.int .u64 (getI l2 (c.cell 0 4))) := fun w' h => ((hkw.fr0 h).cell _).trans (words_get _ _ (by omega) (by omega))
  have hkz : ∀ w', Fr [] W3 w' → ∀ i, w'.frozen? ⟨k, i, none⟩ = false := fun w' h => (hkw.fr0 h).frozen
  have HL2 := Lib.hid hl2; clear hl2
  have HLEN2 := Lib.hid hlen2
  have hh0 := hc.h0
  have hh1 := hc.h1
  have w1' : IntKind.u64.wrap c.height = c.height := by rw [IntKind.wrap_u64]; omega
  clear hn hlen2
  go_region_held3 (fun w' => Fr [k] W3 w') (repeat (first | assumption | exact Fr.refl _ _ | refine Fr.drew ?_ | refine Fr.set1 ?_ _ | refine Fr.alloc ?_ _ | refine Fr.drewN ?_ _ | exact Fr.nil (by assumption))) (first | (go_at_call 77; refine (cell_any c hc 0 4 _).mono ?_; rintro e w1 ⟨rfl, hf⟩; replace hf : Fr [] W3 w1 := Fr.trans (by (first | assumption | exact Fr.refl _ _ | exact (Fr.refl _ _).drew | exact Fr.drew (by assumption))) hf))
  have hkw4 := Blk.setWord (hkw.fr0 hf) (c.cell 0 4) c.height
  obtain ⟨W4, hW4⟩ : ∃ W, w1.setCell ⟨k, (c.cell 0 4).toNat, none⟩ (.int .u64 c.height) = W := ⟨_, rfl⟩
  rw [hW4] at hkw4 ⊢
  have F4 : Fr [] W0 W4 := hW4 ▸ (F3.trans hf).setN hkN _
  have hb4 : Blk W4 w.heap.size _ _ := hB0.fr0 F4
  have hB4 := hb4.cell
  clear hB3 hk0 hkz hkw hW4 F3 hf hb3
  have he : newCells c = setI l2 (c.cell 0 4) c.height := by
    unfold newCells
    rw [HN.out, Int.toNat_natCast, HL1.out, ← HL2.out]; rfl
  have hlen3 : (newCells c).length = n := by rw [he, setI_length]; exact HLEN2.out
  rw [← he] at hkw4
  have hws : Ws (newCells c) := by
    unfold newCells
    refine Ws.setI (Ws.setI (Ws.setI ?_ _ _ (by omega) (by omega)) _ _ (by omega) (by omega)) _ _ (by omega) (by omega)
    intro x hx; rw [List.eq_of_mem_replicate hx]; exact ⟨Int.le_refl _, by omega⟩
  have hnl : ((newCells c).length : Int) = c.len := by rw [hlen3, HN.out]
  have HE := Lib.hid he; clear he
  clear HL HLEN HLEN2 HN
  subst hlen3
  go_wp2_with (go_at_call 26; refine (memOf_any c hc (newCells c) ⟨k, 0, none⟩ _ _ (SrcAt.of_blk hkw4) hkw4.lt hnl hws).mono ?_; rintro e w5 ⟨bm, bb, bc, rfl, hf5, g1, g2, g3, hm5⟩)
  go_ret2
  have q1 := F0.size
  have q2 := F4.size
  exact ⟨bm, bb, bc, rfl, (F0.trans F4).trans hf5, by omega, by omega, by omega, hm5⟩
end Go.Proofs.Ytaddjigmdeejlaa
