/- Contracts of package sweep: what it is in memory, and the first steps. -/
import Derived.Test.YtaddjigmdeejlaaSweepp
namespace Go.Proofs.Ytaddjigmdeejlaa
open Go.RowKit Go.Ss

/-- the function value in a sweep's first cell, with what it captured -/
def SwF (P : Nat → Prop) (w : World) (bs : Nat) : SwSt → Value → Prop
  | .done, fv => fv = .nilFunc
  | .clear slot, fv => ∃ p q, fv = .func (.func 172) #[] #[.pointer (some ⟨p, 0, none⟩), .pointer (some ⟨q, 0, none⟩)] ∧ P p ∧ P q ∧ Blk w p #[.int .i64 slot] 3 ∧ Blk w q #[.pointer (some ⟨bs, 0, none⟩)] 124
  | .look, fv => ∃ q, fv = .func (.func 182) #[] #[.pointer (some ⟨q, 0, none⟩)] ∧ P q ∧ Blk w q #[.pointer (some ⟨bs, 0, none⟩)] 124
  | .free o, fv => ∃ p q vo, fv = .func (.func 191) #[] #[.pointer (some ⟨p, 0, none⟩), .pointer (some ⟨q, 0, none⟩)] ∧ P p ∧ P q ∧ Blk w p #[vo] 121 ∧ RowE P w vo o ∧ Blk w q #[.pointer (some ⟨bs, 0, none⟩)] 124
theorem SwF.frq {P Q : Nat → Prop} {w w' : World} {bs : Nat} {st : SwSt} {fv : Value} (h : SwF P w bs st fv) (f : FrQ Q w w') (hQ : ∀ b, P b → b < w.heap.size → ¬ Q b) : SwF P w' bs st fv := by
  cases st with
  | done => exact h
  | clear slot =>
    obtain ⟨p, q, hv, hp, hq, h1, h2⟩ := h
    exact ⟨p, q, hv, hp, hq, h1.frq f (hQ p hp h1.lt), h2.frq f (hQ q hq h2.lt)⟩
  | look =>
    obtain ⟨q, hv, hq, h2⟩ := h
    exact ⟨q, hv, hq, h2.frq f (hQ q hq h2.lt)⟩
  | free o =>
    obtain ⟨p, q, vo, hv, hp, hq, h1, h3, h2⟩ := h
    exact ⟨p, q, vo, hv, hp, hq, h1.frq f (hQ p hp h1.lt), h3.frq f hQ, h2.frq f (hQ q hq h2.lt)⟩

def SwAt (P : Nat → Prop) (w : World) (bs : Nat) (S : Sw) : Prop :=
  ∃ fv vl vs, Blk w bs #[fv, vl, vs] 194 ∧ RowE P w vl S.l ∧ OwnW P w vs S.seen ∧ SwF P w bs S.st fv
theorem SwAt.frq {P Q : Nat → Prop} {w w' : World} {bs : Nat} {S : Sw} (h : SwAt P w bs S) (f : FrQ Q w w') (hQ : ∀ b, P b → b < w.heap.size → ¬ Q b) (hb : ¬ Q bs) : SwAt P w' bs S := by
  obtain ⟨fv, vl, vs, hB, h1, h2, h3⟩ := h
  exact ⟨fv, vl, vs, hB.frq f hb, h1.frq f hQ, h2.frq f hQ, h3.frq f hQ⟩
theorem SwAt.lt {P : Nat → Prop} {w : World} {bs : Nat} {S : Sw} (h : SwAt P w bs S) : bs < w.heap.size := by
  obtain ⟨fv, vl, vs, hB, _⟩ := h; exact hB.lt

/-! ### New -/
def NewSw (l : List En) (w : World) (e : Ending) (w' : World) : Prop :=
  ∃ bs : Nat, e = .returned (.pointer (some ⟨bs, 0, none⟩)) ∧ Fr [] w w' ∧ w.heap.size ≤ bs ∧ SwAt (fun b => w.heap.size ≤ b ∧ b ≠ bs) w' bs (Sw.new l)

set_option maxRecDepth 100000 in
theorem sclear_any (bs : Nat) (w : World) : Calls Try.prog 138 #[.pointer (some ⟨bs, 0, none⟩)] w fun e w' =>
    e = .returned (.func (.func 172) #[] #[.pointer (some ⟨(w.heap.size + 1), 0, none⟩), .pointer (some ⟨w.heap.size, 0, none⟩)]) ∧ w' = ((w.alloc (.cells #[.pointer (some ⟨bs, 0, none⟩)] 124)).alloc (.cells #[.int .i64 0] 3)) := by
  go_enter Try.func138, Try.ntmps138
  go_wp2
  go_ret
  exact ⟨rfl, rfl⟩
set_option maxRecDepth 100000 in
theorem slook_any (bs : Nat) (w : World) : Calls Try.prog 173 #[.pointer (some ⟨bs, 0, none⟩)] w fun e w' =>
    e = .returned (.func (.func 182) #[] #[.pointer (some ⟨w.heap.size, 0, none⟩)]) ∧ w' = (w.alloc (.cells #[.pointer (some ⟨bs, 0, none⟩)] 124)) := by
  go_enter Try.func173, Try.ntmps173
  go_wp2
  go_ret
  exact ⟨rfl, rfl⟩

set_option maxRecDepth 100000 in
theorem sweepNew_any {P : Nat → Prop} (v : Value) (l : List En) (w : World) (hr : RowE P w v l) (hl : l.length ≤ 100) :
    Calls Try.prog 79 #[v] w (NewSw l w) := by
  go_enter Try.func79, Try.ntmps79
  go_upto_region 2 with (go_at_call 137; refine (cloneE_any v l _ hr (by omega)).mono ?_; rintro e W1 ⟨v1, rfl, f1, hr1⟩; obtain ⟨a1, c1, rfl⟩ := RowE.form hr1)
  refine name_world fun W2 hW2 => ?_
  have hB2 : Blk W2 W1.heap.size _ _ := hW2 ▸ Blk.new _ _ _
  have f12 : Fr [] W1 W2 := hW2 ▸ (Fr.refl _ _).alloc _
  clear hW2
  have hr1o := RowE.old hr1
  have hz1 := f1.size
  have hz2 := hB2.lt
  generalize hbs : W1.heap.size = bs at *
  have hB2' := ((hB2.alloc (.cells #[.pointer (some ⟨bs, 0, none⟩)] 124)).alloc (.cells #[.int .i64 0] 3))
  go_upto_region 3 with (go_at_call 138; refine (sclear_any bs _).mono ?_; rintro e W3 ⟨rfl, hW3⟩; have f23 : Fr [] W2 W3 := (by rw [hW3]; exact ((Fr.refl _ _).alloc _).alloc _); have hq : Blk W3 W2.heap.size #[.pointer (some ⟨bs, 0, none⟩)] 124 := (by rw [hW3]; exact (Blk.new _ _ _).alloc _); have hp : Blk W3 (W2.heap.size + 1) #[.int .i64 0] 3 := (by rw [hW3]; exact Blk.new' _ _ _ _ (by simp)); clear hW3; have hB3 := hB2.fr0 f23; have hB3c := hB3.cell; have hB3f := hB3.frozen)
  go_wp2_with fail
  refine name_post (fun W8 hW8 => ?_)
  have hB8 := (by rw [← hW8]; (repeat (first | with_reducible apply Blk.drew | with_reducible apply Blk.setCell | (with_reducible apply Blk.setCell_ne; rotate_left; (simp; omega)) | with_reducible apply Blk.alloc | exact hB3)) : Blk W8 bs _ 194); simp only [List.setIfInBounds_toArray, List.set_cons_succ, List.set_cons_zero] at hB8
  have F8 : Fr [bs] W3 W8 := by rw [← hW8]; (repeat (first | with_reducible assumption | with_reducible exact Fr.refl _ _ | (with_reducible refine Fr.setM ?_ ?hm _; case hm => (simp; done)) | with_reducible refine Fr.drew ?_ | with_reducible refine Fr.alloc ?_ _ | (with_reducible refine Fr.setN ?_ ?hn _; case hn => omega) | with_reducible exact Fr.nil (by with_reducible assumption)))
  clear hW8
  go_ret
  have hr3 : RowE (fun b => w.heap.size ≤ b ∧ b ≠ bs) W8 _ l := RowE.fr (RowE.mono (RowE.fr0 hr1o (f12.trans f23)) (fun b h => ⟨h.1, by omega⟩)) F8 (by simp)
  have z3 := f23.size
  refine ⟨bs, rfl, Fr.hide (f1.trans (f12.trans f23)) F8 (by simp; omega), by omega, _, _, _, hB8, hr3, OwnW.nil _ _, _, _, rfl, ⟨by omega, by omega⟩, ⟨by omega, by omega⟩, hp.fr F8 (by simp; omega), hq.fr F8 (by simp; omega)⟩
end Go.Proofs.Ytaddjigmdeejlaa
