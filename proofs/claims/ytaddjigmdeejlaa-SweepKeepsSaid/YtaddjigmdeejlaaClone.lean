/- Contracts of slices.Clone, of entries and of words. -/
import Derived.Test.YtaddjigmdeejlaaSplit
namespace Go.Proofs.Ytaddjigmdeejlaa
open Go.RowKit Go.Ss

theorem flatE_at (l : List En) (j : Nat) (u : Value) (h : (flatE l)[j]? = some u) : ∃ e, l[j / 3]? = some e ∧ (enV e)[j % 3]? = some u := by
  have hlt : j < l.length * 3 := by have := (List.getElem?_eq_some_iff.1 h).1; rw [flatE_length] at this; exact this
  have hi : j / 3 < l.length := by omega
  refine ⟨l[j / 3], List.getElem?_eq_getElem hi, ?_⟩
  have hf := flatE_get l (j / 3) _ (List.getElem?_eq_getElem hi)
  have hj : j = j / 3 * 3 + j % 3 := by omega
  have hr : j % 3 = 0 ∨ j % 3 = 1 ∨ j % 3 = 2 := by omega
  rw [hj] at h
  rcases hr with hr | hr | hr <;> rw [hr] at h ⊢
  · rw [Nat.add_zero, hf.1] at h; exact h
  · rw [hf.2.1] at h; exact h
  · rw [hf.2.2] at h; exact h
theorem add_off (g off j : Nat) : (⟨g, off, none⟩ : Addr).add j = ⟨g, off + j, none⟩ := by unfold Addr.add; split <;> simp_all
theorem RowE.news {P : Nat → Prop} {w : World} {g off n cap : Nat} {l : List En} (h : RowE P w (.slice (some ⟨g, off, none⟩) n cap) l) : ∀ j u, (flatE l)[j]? = some u → w.cell? ((⟨g, off, none⟩ : Addr).add j) = some u := by
  intro j u hu
  rcases h with ⟨h, _⟩ | ⟨g', off', cap', vs, hv, hP, hB, h1, h2, h3⟩
  · cases h
  · cases hv
    obtain ⟨e, he, hen⟩ := flatE_at l j u hu
    have := h3 _ e he
    rw [add_off, hB.cell]
    have hj : off + j = off + j / 3 * 3 + j % 3 := by omega
    have hr : j % 3 = 0 ∨ j % 3 = 1 ∨ j % 3 = 2 := by omega
    rw [hj]
    rcases hr with hr | hr | hr <;> rw [hr] at hen ⊢
    · rw [Nat.add_zero, this.1]; exact hen
    · rw [this.2.1]; exact hen
    · rw [this.2.2]; exact hen

theorem enV_one (l : List En) : ∀ u ∈ flatE l, u.oneCell' = true := by
  intro u hu
  obtain ⟨e, _, he⟩ := List.mem_flatMap.1 hu
  simp [enV] at he
  rcases he with rfl | rfl | rfl <;> rfl

def CloneE (l : List En) (w : World) (e : Ending) (w' : World) : Prop := ∃ v', e = .returned v' ∧ Fr [] w w' ∧ RowE (fun b => w.heap.size ≤ b) w' v' l

set_option maxRecDepth 100000 in
theorem cloneE_any {P : Nat → Prop} (v : Value) (l : List En) (w : World) (hr : RowE P w v l) (hl : l.length ≤ 1000) :
    Calls Try.prog 137 #[v] w (CloneE l w) := by
  have hnn := fun (w : World) (a : Option Addr) (n c : Nat) => Lib.run_eql_slice_nil (P := Try.prog) w 121 106 a n c 0 0 Try.underlying121
  have hr0 := hr
  rcases hr with ⟨rfl, rfl⟩ | ⟨g, off, cap, vs, rfl, hP, hB, h1, h2, h3⟩
  · go_enter Try.func137, Try.ntmps137
    go_wp2
    go_ret
    exact ⟨_, rfl, Fr.refl _ _, RowE.nil _ _⟩
  · have hnews := RowE.news (RowE.fr0 hr0 ((Fr.refl [] w).alloc (.cells #[] 106)))
    have HNW := Lib.hid hnews; clear hnews
    have H3 := Lib.hid h3; clear h3
    have HR := Lib.hid hr0; clear hr0
    obtain ⟨i0, hi, hz0, hz1, hz2⟩ := info_parts info_entry
    go_enter Try.func137, Try.ntmps137
    go_wp2_with (at_builtin; go_loud (refine wpList_append_own_at _ rfl _ _ 121 rfl w.heap.size 106 i0 (.agg #[.int .u64 0, .int .u64 0, .int .u64 0]) 3 24 Try.underlying121 hi hz0 hz1 hz2 rfl (by decide) _ 0 [] rfl (World.ownsRow_lit w #[] 0 (Nat.le_refl _) (Nat.zero_le _) rfl) ⟨g, off, none⟩ l.length cap (flatE l) rfl ?c1 HNW.out ?c2 ?c3 ?c4 ?c5 ?_))
    case c1 => exact flatE_length l
    case c2 => exact enV_one l
    case c3 => unfold maxLen; omega
    case c4 => omega
    case c5 => simp
    intro v8 W8 hown8 hgr8 _ hat
    have F8 : Fr [] w W8 := Fr.grown ((Fr.refl [] w).alloc _) hgr8 (by intro k hk; cases hk; exact Nat.le_refl _)
    replace hown8 : W8.ownsRow w.heap.size 106 3 v8 l.length (flatE l) := by simpa using hown8
    go_wp2_with fail
    go_ret
    exact ⟨v8, rfl, F8, RowE.mono (RowE.own hown8 rfl) (fun b hb => (hown8.lt b hb).1)⟩

/-- a slice of words of the program's own -/
def OwnW (P : Nat → Prop) (w : World) (v : Value) (l : List Int) : Prop := w.ownsRow 0 26 1 v l.length (l.map (.int .u64)) ∧ ∀ g, v.ownBlock = some g → P g
theorem OwnW.nil (P : Nat → Prop) (w : World) : OwnW P w (.slice none 0 0) [] := ⟨World.ownsRow_nil .., fun g h => by simp [Value.ownBlock] at h⟩
theorem ownsRow_frq {Q : Nat → Prop} {w w' : World} {base e size : Nat} {v : Value} {n : Nat} {xs : List Value} (h : w.ownsRow base e size v n xs) (f : FrQ Q w w') (hS : ∀ g, v.ownBlock = some g → g < w.heap.size → ¬ Q g) : w'.ownsRow base e size v n xs := by
  obtain ⟨h1, h2⟩ := h
  refine ⟨h1, ?_⟩
  rcases h2 with h2 | ⟨g, cap, cur, hv, hb, hg, h3⟩
  · exact .inl h2
  · have hlt : g < w.heap.size := (Array.getElem?_eq_some_iff.1 hg).1
    exact .inr ⟨g, cap, cur, hv, hb, (f.block g hlt (hS g (by rw [hv]; rfl) hlt)).trans hg, h3⟩
theorem OwnW.frq {P Q : Nat → Prop} {w w' : World} {v : Value} {l : List Int} (h : OwnW P w v l) (f : FrQ Q w w') (hQ : ∀ b, P b → b < w.heap.size → ¬ Q b) : OwnW P w' v l :=
  ⟨ownsRow_frq h.1 f (fun g hg hlt => hQ g (h.2 g hg) hlt), h.2⟩
theorem OwnW.mono {P P' : Nat → Prop} {w : World} {v : Value} {l : List Int} (h : OwnW P w v l) (hp : ∀ b, P b → P' b) : OwnW P' w v l := ⟨h.1, fun g hg => hp g (h.2 g hg)⟩
theorem OwnW.form {P : Nat → Prop} {w : World} {v : Value} {l : List Int} (h : OwnW P w v l) : (v = .slice none 0 0 ∧ l = []) ∨ ∃ g cap, v = .slice (some ⟨g, 0, none⟩) l.length cap := by
  obtain ⟨⟨h1, h2⟩, _⟩ := h
  rcases h2 with ⟨rfl, h0⟩ | ⟨g, cap, cur, hv, _⟩
  · exact .inl ⟨rfl, List.eq_nil_of_length_eq_zero h0⟩
  · exact .inr ⟨g, cap, hv⟩
theorem OwnW.slp {P : Nat → Prop} {w : World} {v : Value} {l : List Int} (h : OwnW P w v l) : SlP P w v l := by
  rcases h.form with ⟨rfl, rfl⟩ | ⟨g, cap, rfl⟩
  · exact ⟨⟨none, 0, rfl, Nat.le_refl _, Nat.zero_le _, fun _ => ⟨rfl, rfl⟩, fun x hx => by cases hx⟩, fun h => by simp at h⟩
  · have := SlP.own h.1 rfl
    refine ⟨this.1, fun hl a n c e => ?_⟩
    cases e; exact h.2 g rfl

set_option maxRecDepth 100000 in
theorem cloneW_any {P : Nat → Prop} (v : Value) (l : List Int) (w : World) (hs : OwnW P w v l) (hl : l.length ≤ 1000) :
    Calls Try.prog 139 #[v] w fun e w' => ∃ v', e = .returned v' ∧ Fr [] w w' ∧ OwnW (fun b => w.heap.size ≤ b) w' v' l := by
  have hnn := fun (w : World) (a : Option Addr) (n c : Nat) => Lib.run_eql_slice_nil (P := Try.prog) w 24 26 a n c 0 0 Try.underlying24
  rcases hs.form with ⟨rfl, rfl⟩ | ⟨g, cap, rfl⟩
  · go_enter Try.func139, Try.ntmps139
    go_wp2
    go_ret
    exact ⟨_, rfl, Fr.refl _ _, OwnW.nil _ _⟩
  · have hs1 := SlI.fr2 hs.slp.1 ((Fr.refl [] w).alloc (.cells #[] 26)) (by simp)
    have hnews := SlI.news hs1
    have HNW := Lib.hid hnews; clear hnews
    have HR := Lib.hid hs; clear hs hs1
    obtain ⟨i0, hi, hz0, hz1, hz2⟩ := info_parts info_word
    go_enter Try.func139, Try.ntmps139
    go_wp2_with (at_builtin; go_loud (refine wpList_append_own_at _ rfl _ _ 24 rfl w.heap.size 26 i0 (.int .u64 0) 1 8 Try.underlying24 hi hz0 hz1 hz2 rfl (by decide) _ 0 [] rfl (World.ownsRow_lit w #[] 0 (Nat.le_refl _) (Nat.zero_le _) rfl) ⟨g, 0, none⟩ l.length cap (l.map (.int .u64)) rfl ?c1 HNW.out ?c2 ?c3 ?c4 ?c5 ?_))
    case c1 => simp
    case c2 => exact oneCell_words l
    case c3 => unfold maxLen; omega
    case c4 => omega
    case c5 => simp
    intro v8 W8 hown8 hgr8 _ hat
    have F8 : Fr [] w W8 := Fr.grown ((Fr.refl [] w).alloc _) hgr8 (by intro k hk; cases hk; exact Nat.le_refl _)
    replace hown8 : W8.ownsRow w.heap.size 26 1 v8 l.length (l.map (.int .u64)) := by simpa using hown8
    go_wp2_with fail
    go_ret
    exact ⟨v8, rfl, F8, ownsRow_base hown8 (Nat.zero_le _), fun b hb => (hown8.lt b hb).1⟩
end Go.Proofs.Ytaddjigmdeejlaa
