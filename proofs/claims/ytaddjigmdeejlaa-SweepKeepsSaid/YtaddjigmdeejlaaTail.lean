/- A region that draws its order, whose last operation (it waits for all others) writes what another one reads: the condition on the world is not asked behind that last one. -/
import Derived.Deep.RegionHeld3
import Derived.StillTail
namespace Go.Ss
open Go

section
variable {P : Program} {ops : Array Oper} {Q : Exit → Act → World → Prop} {md : Region.Mode} {S : World → Prop} {z : Nat}

/-- each operation may come next that is ready; S is to hold behind each, but for number z -/
def anyT (P : Program) (md : Region.Mode) (ops : Array Oper) (Q : Exit → Act → World → Prop) (S : World → Prop) (z : Nat) : Nat → Array Bool → Act → World → Prop
  | 0, li, a, w => Region.ready md ops li = [] ∧ Q .normal a w
  | n + 1, li, a, w => (Region.ready md ops li = [] → Q .normal a w) ∧
      ∀ j ∈ Region.ready md ops li, wpOp P ops Q j (fun a' w' => (j ≠ z → S w') ∧ anyT P md ops Q S z n (li.setIfInBounds j true) a' w') a w

theorem anyT_any (n : Nat) : ∀ (li : Array Bool) (a : Act) (w : World), anyT P md ops Q S z n li a w → wpAny P md ops Q n li a w := by
  induction n with
  | zero => intro li a w h; exact h
  | succ n ih => intro li a w h; exact ⟨h.1, fun j hj => wpOp_mono (fun a' w' h' => ih _ a' w' h'.2) (h.2 j hj)⟩

theorem ready_out {i j : Nat} {li : Array Bool} (hi : i ∈ Region.ready md ops li) (hj : j ∈ Region.ready md ops li) : ∀ oj, ops[j]? = some oj → ∀ e ∈ oj.after, Region.binds md e = true → e.on ≠ i := by
  intro oj hoj e he hb heq
  obtain ⟨_, o, ho, hall⟩ := mem_ready.1 hj
  have : o = oj := Option.some.inj (ho.symm.trans hoj)
  subst this
  have h1 := hall e he hb
  rw [heq, getD_both (mem_ready.1 hi).1] at h1
  cases h1

theorem anyT_first {i : Nat} {oi : Oper} {v : Value} (hi : ops[i]? = some oi) (hsel : Region.noSelect ops = true) (hz : Region.waitsFor md ops z i = true)
    (hQ : ∀ c a w, Q (.panic c) (a.put oi.dst v) w → Q (.panic c) a w) (n : Nat) : ∀ (li : Array Bool) (a : Act) (w : World),
      (∀ j oj, ops[j]? = some oj → j ≠ i → li.getD j true = false → (∀ e ∈ oj.after, Region.binds md e = true → e.on ≠ i) → oi.apart ops oj = true) →
      i ∈ Region.ready md ops li → YieldsIf P ops S oi v a → S w → anyT P md ops Q S z n (li.setIfInBounds i true) (a.put oi.dst v) w → anyT P md ops Q S z (n + 1) li a w := by
  induction n with
  | zero =>
    intro li a w _ hr hy hS H
    refine ⟨(fun h => by rw [h] at hr; cases hr), fun j hj => ?_⟩
    rcases Classical.em (j = i) with rfl | hji
    · exact hy.wpOp hi hS ⟨fun _ => hS, H⟩
    · have := ready_mono hj hji
      rw [H.1] at this; cases this
  | succ n ih =>
    intro li a w hap hr hy hS H
    refine ⟨(fun h => by rw [h] at hr; cases hr), fun j hj => ?_⟩
    rcases Classical.em (j = i) with rfl | hji
    · exact hy.wpOp hi hS ⟨fun _ => hS, H⟩
    · obtain ⟨hun, oj, hoj, _⟩ := mem_ready.1 hj
      have hout := ready_out hr hj
      have hjz : j ≠ z := by
        rintro rfl
        obtain ⟨o', ho', e, he, hb, hon⟩ := Region.waitsFor_spec hz
        exact hout o' ho' e he hb hon
      have h2 := wpOp_putIf hoj (hap j oj hoj hji hun (hout oj hoj)) (fun cs b => Region.noSelect_spec hsel i oi cs b hi) (fun cs b => Region.noSelect_spec hsel j oj cs b hoj) hQ hy (H.2 j (ready_mono hj hji))
      refine wpOp_mono (fun a' w' h3 => ?_) h2
      obtain ⟨hy', hs', ht'⟩ := h3
      refine ⟨fun _ => hs' hjz, ih _ a' w' ?_ (ready_mono hr (Ne.symm hji)) hy' (hs' hjz) ?_⟩
      · intro k ok hk hki hunk hno
        refine hap k ok hk hki ?_ hno
        rcases Classical.em (j = k) with rfl | hjk
        · exact hun
        · rwa [getD_set_ne true hjk] at hunk
      · rw [Array.setIfInBounds_comm _ _ hji]; exact ht'

/-- number i comes first: it yields v wherever S holds -/
theorem anyT_take {i : Nat} {oi : Oper} {v : Value} {n : Nat} {li : Array Bool} {a : Act} {w : World} (hi : ops[i]? = some oi) (hsel : Region.noSelect ops = true) (hz : Region.waitsFor md ops z i = true)
    (hf : Region.free md ops li i = true) (hr : (Region.ready md ops li).contains i = true) (hQ : ∀ c a w, Q (.panic c) (a.put oi.dst v) w → Q (.panic c) a w) (hS : S w) (hy : YieldsIf P ops S oi v a)
    (h : anyT P md ops Q S z n (li.setIfInBounds i true) (a.put oi.dst v) w) : anyT P md ops Q S z (n + 1) li a w :=
  anyT_first hi hsel hz hQ n li a w (Region.free_spec hi hf) (by simpa using hr) hy hS h

/-- number i alone is ready -/
theorem anyT_one {i : Nat} {o : Oper} {n : Nat} {li : Array Bool} {a : Act} {w : World} (hr : Region.ready md ops li = [i]) (ho : ops[i]? = some o)
    (h : ∀ K : Act → World → Prop, Shut (∀ a w, (i ≠ z → S w) → anyT P md ops Q S z n (li.setIfInBounds i true) a w → K a w) →
      if Region.wanted o (yielded ops a.tmps) = true then Oper.wp P o a w K Q else K (a.put o.dst undef) w) : anyT P md ops Q S z (n + 1) li a w := by
  refine ⟨(fun h0 => by rw [hr] at h0; cases h0), fun j hj => ?_⟩
  rw [hr] at hj
  obtain rfl : j = i := by simpa using hj
  exact wpOp_step ho fun K hK => h K (fun a w h1 h2 => hK a w ⟨h1, h2⟩)

/-- all have come -/
theorem anyT_done {n : Nat} {li : Array Bool} {a : Act} {w : World} (hr : Region.ready md ops li = []) (h : Q .normal a w) : anyT P md ops Q S z n li a w := by
  cases n with
  | zero => exact ⟨hr, h⟩
  | succ n => exact ⟨fun _ => h, (fun j hj => by rw [hr] at hj; cases hj)⟩

theorem region_T (z : Nat) (S : World → Prop) {id : Nat} {a : Act} {w : World} (hm : P.follows .mixedOrders = true)
    (h : anyT P .any ops Q S z ops.size (Array.replicate ops.size false) a w.drew) : (Code.region id ops true).wp P Q a w :=
  wp_region_any hm (anyT_any _ _ _ _ h)
end
end Go.Ss
