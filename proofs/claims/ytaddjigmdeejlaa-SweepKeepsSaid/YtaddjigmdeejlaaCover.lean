/- Contracts of package cover: which entries are covered. -/
import Derived.Test.YtaddjigmdeejlaaEnt
namespace Go.Ss
def cov1 (e : En) (era : Int) : Bool := era != 0 && (decide (e.birth ≤ era) && decide (era ≤ e.retired))
def cov (e : En) (eras : List Int) : Bool := eras.any (cov1 e)
end Go.Ss
namespace Go.Proofs.Ytaddjigmdeejlaa
open Go.RowKit Go.Ss

def EnAt (w : World) (p : Nat) (x : En) : Prop := Blk w p #[.int .u64 x.node, .int .u64 x.birth, .int .u64 x.retired] 106

theorem covered1_any (x : En) (era : Int) (p : Nat) (w : World) (hp : EnAt w p x) :
    Calls Try.prog 141 #[.int .u64 era, .pointer (some ⟨p, 0, none⟩)] w fun e w' => e = .returned (.bool (cov1 x era)) ∧ w = w' := by
  have hc := Blk.cell hp
  by_cases h0 : era = 0
  · have hd : ((era : Int) != 0) = false := by rw [h0]; rfl
    have e : cov1 x era = false := by unfold cov1; rw [hd]; rfl
    rw [e]; clear e h0
    go_enter Try.func141, Try.ntmps141
    go_wp2
    go_ret
    exact ⟨rfl, rfl⟩
  · have hd : ((era : Int) != 0) = true := by rw [bne_iff_ne]; exact h0
    clear h0
    by_cases h1 : x.birth ≤ era
    · have e : cov1 x era = decide (era ≤ x.retired) := by unfold cov1; rw [hd, decide_eq_true h1]; rfl
      rw [e]; clear e
      go_enter Try.func141, Try.ntmps141
      go_wp2
      go_ret
      exact ⟨rfl, rfl⟩
    · have e : cov1 x era = false := by unfold cov1; rw [hd, decide_eq_false h1]; rfl
      rw [e]; clear e
      go_enter Try.func141, Try.ntmps141
      go_wp2
      go_ret
      exact ⟨rfl, rfl⟩

def IdxOut (x : En) (l : List Int) (w : World) (e : Ending) (w' : World) : Prop := ∃ i : Int, e = .returned (.int .i64 i) ∧ (decide (0 ≤ i) = cov x l) ∧ Fr [] w w'

set_option maxRecDepth 100000 in
theorem indexFunc_any {P : Nat → Prop} (x : En) (v : Value) (l : List Int) (p : Nat) (w : World) (hp : EnAt w p x) (hs : SlP P w v l) (hl : l.length ≤ 1000) :
    Calls Try.prog 174 #[v, .func (.func 141) #[] #[.pointer (some ⟨p, 0, none⟩)]] w (IdxOut x l w) := by
  obtain ⟨a, cap, rfl⟩ := SlP.form2 hs
  have HS := Lib.hid hs; clear hs
  go_enter Try.func174, Try.ntmps174
  go_wp2_with fail
  go_loopw [8] (fun i wr => ∃ k : Nat, k ≤ l.length ∧ i = .int .i64 k ∧ (∀ j, j < k → cov1 x (l.getD j 0) = false) ∧ wr = w) (fun i _ => l.length - (intOf i).toNat)
  case atStart => exact ⟨0, Nat.zero_le _, rfl, fun j hj => absurd hj (by omega), rfl⟩
  case round =>
    obtain ⟨k, hk, rfl, hno, rfl⟩ := hrel
    have HNO := Lib.hid hno; clear hno
    by_cases hlt : k < l.length
    · have hlt' : (k : Int) < (l.length : Int) := by omega
      obtain ⟨ad, cap', hv, hP, hcell⟩ := SlP.cells_ HS.out (by omega)
      cases hv
      have hck := hcell [] wr (Fr.refl _ _) (by simp) k hlt
      clear hcell
      have hsum := IntWalk.i64_in ((k : Int) + 1) (by omega)
      have hget : ∃ y, l.getD k 0 = y := ⟨_, rfl⟩
      obtain ⟨y, hy⟩ := hget
      rw [hy] at hck
      have HY := Lib.hid hy; clear hy
      cases hcv : cov1 x y
      · go_wp2_with (go_at_call 141; refine (covered1_any x y p _ hp).mono ?_; rintro e w1 ⟨rfl, rfl⟩)
        go_roundw
        case rel =>
          refine ⟨k + 1, hlt, by simp, fun j hj => ?_, by first | rfl | trivial⟩
          by_cases hjk : j = k
          · subst hjk; rw [HY.out]; exact hcv
          · exact HNO.out j (by omega)
        case measure => simp [intOf]; omega
      · go_wp2_with (go_at_call 141; refine (covered1_any x y p _ hp).mono ?_; rintro e w1 ⟨rfl, rfl⟩)
        go_ret
        refine ⟨(k : Int), rfl, ?_, Fr.refl _ _⟩
        rw [decide_eq_true (by omega)]
        symm
        unfold cov; rw [List.any_eq_true]
        refine ⟨y, ?_, hcv⟩
        rw [← HY.out, List.getD_eq_getElem?_getD, List.getElem?_eq_getElem hlt]; exact List.getElem_mem hlt
    · have hlt' : ¬ ((k : Int) < (l.length : Int)) := by omega
      have hkn : k = l.length := by omega
      subst hkn
      go_wp2_with fail
      go_ret
      refine ⟨-1, rfl, ?_, Fr.refl _ _⟩
      rw [decide_eq_false (by omega)]
      symm
      unfold cov; rw [List.any_eq_false]
      intro y hy
      obtain ⟨j, hj, rfl⟩ := List.getElem_of_mem hy
      have := HNO.out j hj
      rw [List.getD_eq_getElem?_getD, List.getElem?_eq_getElem hj] at this
      simpa using this

set_option maxRecDepth 100000 in
theorem containsFunc_any {P : Nat → Prop} (x : En) (v : Value) (l : List Int) (p : Nat) (w : World) (hp : EnAt w p x) (hs : SlP P w v l) (hl : l.length ≤ 1000) :
    Calls Try.prog 140 #[v, .func (.func 141) #[] #[.pointer (some ⟨p, 0, none⟩)]] w fun e w' => e = .returned (.bool (cov x l)) ∧ Fr [] w w' := by
  go_enter Try.func140, Try.ntmps140
  go_wp2_with (go_at_call 174; refine (indexFunc_any x v l p _ hp hs hl).mono ?_; rintro e w1 ⟨i, rfl, hi, hf⟩; have HI := Lib.hid hi; clear hi)
  go_ret
  exact ⟨rb HI.out, hf⟩

set_option maxRecDepth 100000 in
theorem covered_any {P : Nat → Prop} (x : En) (v : Value) (l : List Int) (w : World) (hs : SlP P w v l) (hl : l.length ≤ 1000) :
    Calls Try.prog 86 #[.agg #[.int .u64 x.node, .int .u64 x.birth, .int .u64 x.retired], v] w fun e w' => e = .returned (.bool (cov x l)) ∧ Fr [] w w' := by
  obtain ⟨W0, hW0⟩ : ∃ W, w.alloc (.cells #[.int .u64 x.node, .int .u64 x.birth, .int .u64 x.retired] 106) = W := ⟨_, rfl⟩
  have hB0 : Blk W0 w.heap.size #[.int .u64 x.node, .int .u64 x.birth, .int .u64 x.retired] 106 := hW0 ▸ Blk.new _ _ _
  have F0 : Fr [] w W0 := hW0 ▸ (Fr.refl _ _).alloc _
  have hBc0 : ∀ w', Fr [] W0 w' → ∀ i, w'.cell? ⟨w.heap.size, i, none⟩ = _ := fun w' h i => (hB0.fr0 h).cell i
  have hBr0 := Fr.refl [] W0
  have hs0 := SlP.fr0 hs F0
  clear hBc0 hBr0
  go_enter Try.func86, Try.ntmps86
  go_wp2_with (go_at_call 140; refine (containsFunc_any x v l _ _ hB0 hs0 hl).mono ?_; rintro e w1 ⟨rfl, hf⟩)
  go_ret
  exact ⟨rfl, F0.trans hf⟩

/-- the entries that are covered, or not -/
def keep (l : List En) (eras : List Int) : List En := l.filter fun x => cov x eras
def drop_ (l : List En) (eras : List Int) : List En := l.filter fun x => !cov x eras
end Go.Proofs.Ytaddjigmdeejlaa
