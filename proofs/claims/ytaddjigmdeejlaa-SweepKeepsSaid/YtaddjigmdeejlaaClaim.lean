/- Contracts of package claim: a step is what the plain definition says. -/
import Derived.Test.YtaddjigmdeejlaaFn
import Derived.Test.YtaddjigmdeejlaaClaimp
namespace Go.Proofs.Ytaddjigmdeejlaa
open Go.RowKit Go.Ss

/-- the function value that stands in a claim's first cell -/
def clV (b : Nat) : CSt → Value
  | .done => .nilFunc
  | .look => .func (.func 101) #[.pointer (some ⟨b, 0, none⟩)] #[]
  | .take => .func (.func 149) #[.pointer (some ⟨b, 0, none⟩)] #[]

def ClAt (w : World) (b : Nat) (C : Cl) : Prop := Blk w b #[clV b C.st, .int .i64 C.from_, .int .i64 C.at_, .int .i64 C.looked, .int .u64 C.word, .int .u64 C.got, .int .i64 C.next] 150

def NewCl (f : Int) (w : World) (e : Ending) (w' : World) : Prop := ∃ b : Nat, e = .returned (.pointer (some ⟨b, 0, none⟩)) ∧ Fr [] w w' ∧ w.heap.size ≤ b ∧ ClAt w' b (Cl.new f)
theorem claimNew_any (f : Int) (w : World) : Calls Try.prog 23 #[.int .i64 f] w (NewCl f w) := by
  go_enter Try.func23, Try.ntmps23
  go_wp2
  go_ret
  exact ⟨w.heap.size, rfl, (Fr.refl _ _).alloc _, Nat.le_refl _, Blk.new _ _ _⟩

set_option maxRecDepth 100000 in
theorem cdone_any (b : Nat) (C : Cl) (w : World) (hc : ClAt w b C) : Calls Try.prog 36 #[.pointer (some ⟨b, 0, none⟩)] w fun e w' => e = .returned (.bool C.st.isDone) ∧ w = w' := by
  have hcc := Blk.cell hc
  obtain ⟨st, _, _, _, _, _, _⟩ := C
  cases st
  all_goals
    simp only [clV] at hcc
    go_enter Try.func36, Try.ntmps36
    go_wp2
    go_ret
    exact ⟨rfl, rfl⟩
theorem cgot_any (b : Nat) (C : Cl) (w : World) (hc : ClAt w b C) : Calls Try.prog 33 #[.pointer (some ⟨b, 0, none⟩)] w fun e w' => e = .returned (.int .u64 C.got) ∧ w = w' := by
  have hcc := Blk.cell hc
  go_enter Try.func33, Try.ntmps33
  go_wp2
  go_ret
  exact ⟨rfl, rfl⟩
theorem cnext_any (b : Nat) (C : Cl) (w : World) (hc : ClAt w b C) : Calls Try.prog 102 #[.pointer (some ⟨b, 0, none⟩)] w fun e w' => e = .returned (.int .i64 C.next) ∧ w = w' := by
  have hcc := Blk.cell hc
  go_enter Try.func102, Try.ntmps102
  go_wp2
  go_ret
  exact ⟨rfl, rfl⟩

set_option maxRecDepth 100000 in
theorem cbegin_any (b : Nat) (C : Cl) (most : Int) (w : World) (hc : ClAt w b C) : Calls Try.prog 148 #[.pointer (some ⟨b, 0, none⟩), .int .i64 most] w fun e w' => e = .returned (.tuple #[]) ∧ Fr [b] w w' ∧ ClAt w' b (C.begin most) := by
  have hcc := Blk.cell hc
  have hcf := Blk.frozen hc
  by_cases h0 : 0 < C.at_
  · have e : C.begin most = C := by unfold Cl.begin Cl.atOf; rw [if_pos h0]
    rw [e]; clear e
    go_enter Try.func148, Try.ntmps148
    go_wp2
    (first | go_end0 | (refine bodyPost_ret (results_none rfl _ _ _) rfl ?_))
    exact ⟨rfl, Fr.refl _ _, hc⟩
  · by_cases h1 : 1 ≤ C.from_
    · by_cases h2 : C.from_ ≤ most
      · have e : C.begin most = ⟨C.st, C.from_, C.from_, C.looked, C.word, C.got, C.next⟩ := by unfold Cl.begin Cl.atOf; rw [if_neg h0, if_pos ⟨h1, h2⟩]
        rw [e]; clear e
        go_enter Try.func148, Try.ntmps148
        go_wp2
        refine name_post (fun W8 hW8 => ?_)
        have hB8 := (by rw [← hW8]; (repeat (first | with_reducible apply Blk.drew | with_reducible apply Blk.setCell | (with_reducible apply Blk.setCell_ne; rotate_left; (simp; omega)) | with_reducible apply Blk.alloc | exact hc)) : Blk W8 b _ 150); simp only [List.setIfInBounds_toArray, List.set_cons_succ, List.set_cons_zero] at hB8
        have F8 : Fr [b] w W8 := by rw [← hW8]; (repeat (first | with_reducible assumption | with_reducible exact Fr.refl _ _ | (with_reducible refine Fr.setM ?_ ?hm _; case hm => (simp; done)) | with_reducible refine Fr.drew ?_ | with_reducible refine Fr.alloc ?_ _ | (with_reducible refine Fr.setN ?_ ?hn _; case hn => omega) | with_reducible exact Fr.nil (by with_reducible assumption)))
        clear hW8
        (first | go_end0 | (refine bodyPost_ret (results_none rfl _ _ _) rfl ?_))
        exact ⟨rfl, F8, hB8⟩
      · have e : C.begin most = ⟨C.st, C.from_, 1, C.looked, C.word, C.got, C.next⟩ := by unfold Cl.begin Cl.atOf; rw [if_neg h0, if_neg (by omega)]
        rw [e]; clear e
        go_enter Try.func148, Try.ntmps148
        go_wp2
        refine name_post (fun W8 hW8 => ?_)
        have hB8 := (by rw [← hW8]; (repeat (first | with_reducible apply Blk.drew | with_reducible apply Blk.setCell | (with_reducible apply Blk.setCell_ne; rotate_left; (simp; omega)) | with_reducible apply Blk.alloc | exact hc)) : Blk W8 b _ 150); simp only [List.setIfInBounds_toArray, List.set_cons_succ, List.set_cons_zero] at hB8
        have F8 : Fr [b] w W8 := by rw [← hW8]; (repeat (first | with_reducible assumption | with_reducible exact Fr.refl _ _ | (with_reducible refine Fr.setM ?_ ?hm _; case hm => (simp; done)) | with_reducible refine Fr.drew ?_ | with_reducible refine Fr.alloc ?_ _ | (with_reducible refine Fr.setN ?_ ?hn _; case hn => omega) | with_reducible exact Fr.nil (by with_reducible assumption)))
        clear hW8
        (first | go_end0 | (refine bodyPost_ret (results_none rfl _ _ _) rfl ?_))
        exact ⟨rfl, F8, hB8⟩
    · have e : C.begin most = ⟨C.st, C.from_, 1, C.looked, C.word, C.got, C.next⟩ := by unfold Cl.begin Cl.atOf; rw [if_neg h0, if_neg (by omega)]
      rw [e]; clear e
      go_enter Try.func148, Try.ntmps148
      go_wp2
      refine name_post (fun W8 hW8 => ?_)
      have hB8 := (by rw [← hW8]; (repeat (first | with_reducible apply Blk.drew | with_reducible apply Blk.setCell | (with_reducible apply Blk.setCell_ne; rotate_left; (simp; omega)) | with_reducible apply Blk.alloc | exact hc)) : Blk W8 b _ 150); simp only [List.setIfInBounds_toArray, List.set_cons_succ, List.set_cons_zero] at hB8
      have F8 : Fr [b] w W8 := by rw [← hW8]; (repeat (first | with_reducible assumption | with_reducible exact Fr.refl _ _ | (with_reducible refine Fr.setM ?_ ?hm _; case hm => (simp; done)) | with_reducible refine Fr.drew ?_ | with_reducible refine Fr.alloc ?_ _ | (with_reducible refine Fr.setN ?_ ?hn _; case hn => omega) | with_reducible exact Fr.nil (by with_reducible assumption)))
      clear hW8
      (first | go_end0 | (refine bodyPost_ret (results_none rfl _ _ _) rfl ?_))
      exact ⟨rfl, F8, hB8⟩

set_option maxRecDepth 100000 in
theorem cgoes_any (b : Nat) (C : Cl) (most : Int) (w : World) (hc : ClAt w b C) (a0 : 0 ≤ C.at_) (a1 : C.at_ ≤ 64) (l0 : 0 ≤ C.looked) (l1 : C.looked < most) (m0 : 1 ≤ most) (m1 : most ≤ 64) :
    Calls Try.prog 150 #[.pointer (some ⟨b, 0, none⟩), .int .i64 most] w fun e w' => e = .returned (.tuple #[]) ∧ Fr [b] w w' ∧ ClAt w' b (C.goes most) := by
  have hcc := Blk.cell hc
  have hcf := Blk.frozen hc
  have hr0 : 0 ≤ C.at_ % most := Int.emod_nonneg C.at_ (b := most) (by omega)
  have hr1 : C.at_ % most < most := Int.emod_lt_of_pos C.at_ (b := most) (by omega)
  by_cases h : most ≤ C.looked + 1
  · have e : C.goes most = ⟨.done, C.from_, C.at_ % most + 1, C.looked + 1, C.word, C.got, C.next⟩ := by unfold Cl.goes; rw [if_pos h]
    rw [e]; clear e
    go_enter Try.func150, Try.ntmps150
    go_wp2
    refine name_post (fun W8 hW8 => ?_)
    have hB8 := (by rw [← hW8]; (repeat (first | with_reducible apply Blk.drew | with_reducible apply Blk.setCell | (with_reducible apply Blk.setCell_ne; rotate_left; (simp; omega)) | with_reducible apply Blk.alloc | exact hc)) : Blk W8 b _ 150); simp only [List.setIfInBounds_toArray, List.set_cons_succ, List.set_cons_zero] at hB8
    have F8 : Fr [b] w W8 := by rw [← hW8]; (repeat (first | with_reducible assumption | with_reducible exact Fr.refl _ _ | (with_reducible refine Fr.setM ?_ ?hm _; case hm => (simp; done)) | with_reducible refine Fr.drew ?_ | with_reducible refine Fr.alloc ?_ _ | (with_reducible refine Fr.setN ?_ ?hn _; case hn => omega) | with_reducible exact Fr.nil (by with_reducible assumption)))
    clear hW8
    (first | go_end0 | (refine bodyPost_ret (results_none rfl _ _ _) rfl ?_))
    exact ⟨rfl, F8, hB8⟩
  · have e : C.goes most = ⟨.look, C.from_, C.at_ % most + 1, C.looked + 1, C.word, C.got, C.next⟩ := by unfold Cl.goes; rw [if_neg h]
    rw [e]; clear e
    go_enter Try.func150, Try.ntmps150
    go_wp2
    refine name_post (fun W8 hW8 => ?_)
    have hB8 := (by rw [← hW8]; (repeat (first | with_reducible apply Blk.drew | with_reducible apply Blk.setCell | (with_reducible apply Blk.setCell_ne; rotate_left; (simp; omega)) | with_reducible apply Blk.alloc | exact hc)) : Blk W8 b _ 150); simp only [List.setIfInBounds_toArray, List.set_cons_succ, List.set_cons_zero] at hB8
    have F8 : Fr [b] w W8 := by rw [← hW8]; (repeat (first | with_reducible assumption | with_reducible exact Fr.refl _ _ | (with_reducible refine Fr.setM ?_ ?hm _; case hm => (simp; done)) | with_reducible refine Fr.drew ?_ | with_reducible refine Fr.alloc ?_ _ | (with_reducible refine Fr.setN ?_ ?hn _; case hn => omega) | with_reducible exact Fr.nil (by with_reducible assumption)))
    clear hW8
    (first | go_end0 | (refine bodyPost_ret (results_none rfl _ _ _) rfl ?_))
    exact ⟨rfl, F8, hB8⟩
end Go.Proofs.Ytaddjigmdeejlaa
