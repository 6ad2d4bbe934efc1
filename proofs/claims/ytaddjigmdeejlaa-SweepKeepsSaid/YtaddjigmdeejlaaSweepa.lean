/- Contracts of package sweep: clearing reservations. -/
import Derived.Test.YtaddjigmdeejlaaSweep
namespace Go.Proofs.Ytaddjigmdeejlaa
open Go.RowKit Go.Ss

theorem RowE.ne {P : Nat → Prop} {w : World} {v : Value} {l : List En} {p T : Nat} {vs : Array Value} (h : RowE P w v l) (hp : Blk w p vs T) (hT : 106 ≠ T) : RowE (fun b => P b ∧ b ≠ p) w v l := by
  rcases h with h | ⟨g, off, cap, vs, hv, hP, hB, hr⟩
  · exact .inl h
  · exact .inr ⟨g, off, cap, vs, hv, ⟨hP, hB.ne_ hp hT⟩, hB, hr⟩
theorem OwnW.ne {P : Nat → Prop} {w : World} {v : Value} {l : List Int} {p T : Nat} {vs : Array Value} (h : OwnW P w v l) (hp : Blk w p vs T) (hT : 26 ≠ T) : OwnW (fun b => P b ∧ b ≠ p) w v l := by
  refine ⟨h.1, fun g hg => ⟨h.2 g hg, ?_⟩⟩
  obtain ⟨⟨_, h2⟩, _⟩ := h
  rcases h2 with ⟨rfl, _⟩ | ⟨g', cap, cur, rfl, _, hh, _⟩
  · simp [Value.ownBlock] at hg
  · have : g' = g := by simpa [Value.ownBlock] using hg
    subst this
    exact Blk.ne_ (T := 26) hh hp hT
theorem OwnW.fr {P : Nat → Prop} {S : List Nat} {w w' : World} {v : Value} {l : List Int} (h : OwnW P w v l) (f : Fr S w w') (hS : ∀ b ∈ S, ¬ P b) : OwnW P w' v l :=
  h.frq (Q := (· ∈ S)) (f.q (fun _ h => h)) (fun b hb _ hm => hS b hm hb)

/-- where everything lies -/
structure Apt (P : Nat → Prop) (w : World) (bs bg bm bb bc : Nat) : Prop where
  s : ¬ P bs
  g : ¬ P bg
  m : ¬ P bm
  b : ¬ P bb
  c : ¬ P bc
  fresh : ∀ b, w.heap.size ≤ b → P b
  sg : bs ≠ bg
  sm : bs ≠ bm
  sb : bs ≠ bb
  sc : bs ≠ bc
  gm : bg ≠ bm
  gb : bg ≠ bb
  gc : bg ≠ bc
def SwQ (P : Nat → Prop) (bs bg bb bc : Nat) (b : Nat) : Prop := P b ∨ b = bs ∨ b = bg ∨ b = bb ∨ b = bc
def SwPost (P : Nat → Prop) (bs bg bm bb bc : Nat) (S : Sw) (M : Mm) (G : Gd) (w : World) (e : Ending) (w' : World) : Prop :=
  e = .returned (.tuple #[]) ∧ FrQ (SwQ P bs bg bb bc) w w' ∧ MemAt w' bm bb bc M ∧ GdAt w' bg G ∧ SwAt P w' bs S
theorem SwQ.of {P : Nat → Prop} {bs bg bb bc : Nat} {L : List Nat} {w w' : World} (f : Fr L w w') (h : ∀ x ∈ L, SwQ P bs bg bb bc x) : FrQ (SwQ P bs bg bb bc) w w' := f.q h

set_option maxRecDepth 100000 in
set_option maxHeartbeats 1000000 in
theorem sclear1_any (P : Nat → Prop) (bs bg bm bb bc p q : Nat) (vl vs : Value) (slot : Int) (S : Sw) (M : Mm) (G : Gd) (w : World) (ap : Apt P w bs bg bm bb bc)
    (hB : Blk w bs #[.func (.func 172) #[] #[.pointer (some ⟨p, 0, none⟩), .pointer (some ⟨q, 0, none⟩)], vl, vs] 194) (hl : RowE P w vl S.l) (hs : OwnW P w vs S.seen) (hp : P p) (hq : P q) (hp1 : Blk w p #[.int .i64 slot] 3) (hq1 : Blk w q #[.pointer (some ⟨bs, 0, none⟩)] 124)
    (hm : MemAt w bm bb bc M) (hg : GdAt w bg G) (s0 : 0 ≤ slot) (s1 : slot < M.c.slots) (hl0 : S.l.length ≤ 100) :
    Calls Try.prog 172 #[.pointer (some ⟨bm, 0, none⟩), .pointer (some ⟨bg, 0, none⟩), .pointer (some ⟨p, 0, none⟩), .pointer (some ⟨q, 0, none⟩)] w (SwPost P bs bg bm bb bc (S.clearC slot M.c) (G.clear M slot).2 (G.clear M slot).1 w) := by
  have hpq : p ≠ q := hp1.ne_ hq1 (by decide)
  have pbs : p ≠ bs := fun h => ap.s (h ▸ hp)
  have pbg : p ≠ bg := fun h => ap.g (h ▸ hp)
  have pbm : p ≠ bm := fun h => ap.m (h ▸ hp)
  have pbb : p ≠ bb := fun h => ap.b (h ▸ hp)
  have pbc : p ≠ bc := fun h => ap.c (h ▸ hp)
  have qbs : q ≠ bs := fun h => ap.s (h ▸ hq)
  have qbg : q ≠ bg := fun h => ap.g (h ▸ hq)
  have qbb : q ≠ bb := fun h => ap.b (h ▸ hq)
  have qbc : q ≠ bc := fun h => ap.c (h ▸ hq)
  have hl' := RowE.ne hl hp1 (by decide)
  have hs' := OwnW.ne hs hp1 (by decide)
  have hS8 := hm.ok.r.s1
  have hpc := hp1.cell
  obtain ⟨al, cl, rfl⟩ := RowE.form hl
  go_enter Try.func172, Try.ntmps172
  go_upto_region 1 with (go_at_call 112; refine (clear_any bg bm bb bc G M slot _ hg hm ap.gm ap.gb ap.gc).mono ?_; rintro e W1 ⟨rfl, f1, hm1, hg1⟩)
  have hp2 := hp1.fr f1 (by simp [pbg, pbb, pbc])
  have hp2c := hp2.cell
  have hp2f := hp2.frozen
  clear hpc
  go_upto_region 2 with fail
  refine name_world fun W2 hW2 => ?_
  have hp3 := (by rw [← hW2]; (repeat (first | with_reducible apply Blk.drew | with_reducible apply Blk.setCell | (with_reducible apply Blk.setCell_ne; rotate_left; (simp; omega)) | with_reducible apply Blk.alloc | exact hp2)) : Blk W2 p _ 3); simp only [List.setIfInBounds_toArray, List.set_cons_succ, List.set_cons_zero] at hp3
  have f12 : Fr [p] W1 W2 := by rw [← hW2]; (repeat (first | with_reducible assumption | with_reducible exact Fr.refl _ _ | (with_reducible refine Fr.setM ?_ ?hm _; case hm => (simp; done)) | with_reducible refine Fr.drew ?_ | with_reducible refine Fr.alloc ?_ _ | (with_reducible refine Fr.setN ?_ ?hn _; case hn => omega) | with_reducible exact Fr.nil (by with_reducible assumption)))
  clear hW2 hp2c hp2f
  have hm2 : MemAt W2 bm bb bc _ := hm1.fr f12 (by simpa using pbm.symm) (by simpa using pbb.symm) (by simpa using pbc.symm)
  have hg2 : GdAt W2 bg _ := Blk.fr hg1 f12 (by simpa using pbg.symm)
  have hB2 := (hB.fr f1 (by simp [ap.sg, ap.sb, ap.sc])).fr f12 (by simpa using pbs.symm)
  have hq2 := (hq1.fr f1 (by simp [qbg, qbb, qbc])).fr f12 (by simpa using hpq.symm)
  have F2 : Fr [p, bg, bb, bc] w W2 := (f1.mono (by simp)).trans (f12.mono (by simp))
  have hl2 := RowE.fr hl' F2 (by simp; exact ⟨fun h => absurd h ap.g, fun h => absurd h ap.b, fun h => absurd h ap.c⟩)
  have hs2 := OwnW.fr hs' F2 (by simp; exact ⟨fun h => absurd h ap.g, fun h => absurd h ap.b, fun h => absurd h ap.c⟩)
  have hmM : (G.clear M slot).2.c = M.c := by unfold Gd.clear; rfl
  have hmc : ∀ w', Fr [] W2 w' → ∀ i, w'.cell? ⟨bm, i, none⟩ = _ := fun w' h i => (hm2.mem.fr0 h).cell i
  have hpc : ∀ w', Fr [] W2 w' → ∀ i, w'.cell? ⟨p, i, none⟩ = _ := fun w' h i => (hp3.fr0 h).cell i
  rw [hmM] at hmc
  have hrf := Fr.refl [] W2
  have h2s : ∀ x ∈ [p, bg, bb, bc], SwQ P bs bg bb bc x := by
    intro x hx; simp at hx; unfold SwQ; rcases hx with rfl | rfl | rfl | rfl
    · exact .inl hp
    · exact .inr (.inr (.inl rfl))
    · exact .inr (.inr (.inr (.inl rfl)))
    · exact .inr (.inr (.inr (.inr rfl)))
  by_cases hlt : slot + 1 < M.c.slots
  · have e : S.clearC slot M.c = ⟨.clear (slot + 1), S.l, S.seen⟩ := by unfold Sw.clearC; rw [if_pos hlt]
    have E := Lib.hid e; clear e
    go_region_held3 (fun w' => Fr [] W2 w') (repeat (first | assumption | exact Fr.refl _ _ | refine Fr.drew ?_ | refine Fr.set1 ?_ _ | refine Fr.alloc ?_ _ | refine Fr.drewN ?_ _ | exact Fr.nil (by assumption))) (first | (go_at_call 115; refine (config_any M.c _).mono ?_; rintro e w1 ⟨rfl, hf⟩; replace hf : Fr [] W2 w1 := Fr.trans (by (first | assumption | exact Fr.refl _ _ | exact (Fr.refl _ _).drew | exact Fr.drew (by assumption))) hf))
    go_wp2_with fail
    (first | go_end0 | (refine bodyPost_ret (results_none rfl _ _ _) rfl ?_))
    rw [E.out]
    have F3 := F2.trans hf.nil
    exact ⟨rfl, SwQ.of F3 h2s, hm2.fr0 hf, Blk.fr0 hg2 hf, _, _, _, hB2.fr0 hf, RowE.mono (RowE.fr0 hl2 hf) (fun b h => h.1), OwnW.mono (OwnW.fr hs2 hf (by simp)) (fun b h => h.1), p, q, rfl, hp, hq, hp3.fr0 hf, hq2.fr0 hf⟩
  · go_region_held3 (fun w' => Fr [] W2 w') (repeat (first | assumption | exact Fr.refl _ _ | refine Fr.drew ?_ | refine Fr.set1 ?_ _ | refine Fr.alloc ?_ _ | refine Fr.drewN ?_ _ | exact Fr.nil (by assumption))) (first | (go_at_call 115; refine (config_any M.c _).mono ?_; rintro e w1 ⟨rfl, hf⟩; replace hf : Fr [] W2 w1 := Fr.trans (by (first | assumption | exact Fr.refl _ _ | exact (Fr.refl _ _).drew | exact Fr.drew (by assumption))) hf))
    have hB3 := hB2.fr0 hf
    have hq3 := hq2.fr0 hf
    have hB3c := hB3.cell
    have hB3f := hB3.frozen
    have hq3c := hq3.cell
    go_upto_region 4 with fail
    refine name_world fun W4 hW4 => ?_
    have hB4 := (by rw [← hW4]; (repeat (first | with_reducible apply Blk.drew | with_reducible apply Blk.setCell | (with_reducible apply Blk.setCell_ne; rotate_left; (simp; omega)) | with_reducible apply Blk.alloc | exact hB3)) : Blk W4 bs _ 194); simp only [List.setIfInBounds_toArray, List.set_cons_succ, List.set_cons_zero] at hB4
    have f14 : Fr [bs] w1 W4 := by rw [← hW4]; (repeat (first | with_reducible assumption | with_reducible exact Fr.refl _ _ | (with_reducible refine Fr.setM ?_ ?hm _; case hm => (simp; done)) | with_reducible refine Fr.drew ?_ | with_reducible refine Fr.alloc ?_ _ | (with_reducible refine Fr.setN ?_ ?hn _; case hn => omega) | with_reducible exact Fr.nil (by with_reducible assumption)))
    clear hW4 hB3c hB3f hq3c hmc hpc hrf
    have hq4 := hq3.fr f14 (by simpa using qbs)
    have hm4 : MemAt W4 bm bb bc _ := (hm2.fr0 hf).fr f14 (by simpa using ap.sm.symm) (by simpa using ap.sb.symm) (by simpa using ap.sc.symm)
    have hg4 : GdAt W4 bg _ := Blk.fr (Blk.fr0 hg2 hf) f14 (by simpa using ap.sg.symm)
    have hl4 := RowE.fr (RowE.fr0 hl2 hf) f14 (by simp; exact fun h => absurd h ap.s)
    have hs4 := OwnW.fr (OwnW.fr hs2 hf (by simp)) f14 (by simp; exact fun h => absurd h ap.s)
    have F4 : Fr [p, bs, bg, bb, bc] w W4 := ((F2.mono (by simp)).trans hf.nil).trans (f14.mono (by simp))
    have h4s : ∀ x ∈ [p, bs, bg, bb, bc], SwQ P bs bg bb bc x := by
      intro x hx; simp at hx; rcases hx with rfl | rfl | rfl | rfl | rfl
      · exact .inl hp
      · exact .inr (.inl rfl)
      · exact .inr (.inr (.inl rfl))
      · exact .inr (.inr (.inr (.inl rfl)))
      · exact .inr (.inr (.inr (.inr rfl)))
    have hmc : ∀ w', Fr [] W4 w' → ∀ i, w'.cell? ⟨bm, i, none⟩ = _ := fun w' h i => (hm4.mem.fr0 h).cell i
    have hqc : ∀ w', Fr [] W4 w' → ∀ i, w'.cell? ⟨q, i, none⟩ = _ := fun w' h i => (hq4.fr0 h).cell i
    have hbc : ∀ w', Fr [] W4 w' → ∀ i, w'.cell? ⟨bs, i, none⟩ = _ := fun w' h i => (hB4.fr0 h).cell i
    rw [hmM] at hmc
    have hrf := Fr.refl [] W4
    have f12' := hf
    clear hf
    by_cases hk : M.c.keep ≤ (S.l.length : Int)
    · have e : S.clearC slot M.c = ⟨.look, S.l, S.seen⟩ := by unfold Sw.clearC; rw [if_neg (by omega), if_pos (by omega)]
      have E := Lib.hid e; clear e
      go_region_held3 (fun w' => Fr [] W4 w') (repeat (first | assumption | exact Fr.refl _ _ | refine Fr.drew ?_ | refine Fr.set1 ?_ _ | refine Fr.alloc ?_ _ | refine Fr.drewN ?_ _ | exact Fr.nil (by assumption))) (first | (go_at_call 115; refine (config_any M.c _).mono ?_; rintro e w1 ⟨rfl, hf⟩; replace hf : Fr [] W4 w1 := Fr.trans (by (first | assumption | exact Fr.refl _ _ | exact (Fr.refl _ _).drew | exact Fr.drew (by assumption))) hf))
      go_upto_region 5 with fail
      have hB5 := hB4.fr0 hf
      have hq5 := hq4.fr0 hf
      clear hmc hqc hbc hrf
      have hqc : ∀ w', Fr [bs] w1 w' → ∀ i, w'.cell? ⟨q, i, none⟩ = _ := fun w' h i => (hq5.fr h (by simpa using qbs)).cell i
      have hrf := Fr.refl [bs] w1
      go_region_held3 (fun w' => Fr [bs] w1 w') (repeat (first | with_reducible assumption | with_reducible exact Fr.refl _ _ | with_reducible refine Fr.drew ?_ | (with_reducible refine Fr.setM ?_ ?hm _; case hm => (simp; done)) | (with_reducible refine Fr.setN ?_ ?hn _; case hn => omega) | with_reducible refine Fr.alloc ?_ _ | with_reducible exact Fr.nil (by with_reducible assumption))) (first | (go_at_call 173; refine (slook_any bs _).mono ?_; rintro e W6 ⟨rfl, hW6⟩; have f6 : Fr [] w1 W6 := (by rw [hW6]; exact Fr.alloc (by (first | assumption | exact Fr.refl _ _ | exact (Fr.refl _ _).drew | exact Fr.drew (by assumption))) _); have hn6 : Blk W6 w1.heap.size #[.pointer (some ⟨bs, 0, none⟩)] 124 := (by rw [hW6]; exact Blk.new' _ _ _ _ (by first | rfl | simp)); clear hW6; have hB6 := hB5.fr0 f6; have hB6c := hB6.cell; have hB6f := hB6.frozen))
      go_wp2_with fail
      refine name_post (fun W8 hW8 => ?_)
      have hB8 := (by rw [← hW8]; (repeat (first | with_reducible apply Blk.drew | with_reducible apply Blk.setCell | (with_reducible apply Blk.setCell_ne; rotate_left; (simp; omega)) | with_reducible apply Blk.alloc | exact hB6)) : Blk W8 bs _ 194); simp only [List.setIfInBounds_toArray, List.set_cons_succ, List.set_cons_zero] at hB8
      have F8 : Fr [bs] W6 W8 := by rw [← hW8]; (repeat (first | with_reducible assumption | with_reducible exact Fr.refl _ _ | (with_reducible refine Fr.setM ?_ ?hm _; case hm => (simp; done)) | with_reducible refine Fr.drew ?_ | with_reducible refine Fr.alloc ?_ _ | (with_reducible refine Fr.setN ?_ ?hn _; case hn => omega) | with_reducible exact Fr.nil (by with_reducible assumption)))
      clear hW8
      (first | go_end0 | (refine bodyPost_ret (results_none rfl _ _ _) rfl ?_))
      rw [E.out]
      have f68 : Fr [bs] W4 W8 := (hf.trans f6).nil.trans F8
      have F9 := F4.trans (f68.mono (by simp))
      have zz : w.heap.size ≤ w1.heap.size := (F4.trans hf.nil).size
      have pn : P w1.heap.size := ap.fresh _ zz
      have nbs : w1.heap.size ≠ bs := fun h => ap.s (h ▸ pn)
      exact ⟨rfl, SwQ.of F9 h4s, hm4.fr f68 (by simpa using ap.sm.symm) (by simpa using ap.sb.symm) (by simpa using ap.sc.symm), Blk.fr hg4 f68 (by simpa using ap.sg.symm), _, _, _, hB8, RowE.mono (RowE.fr hl4 f68 (by simp; exact fun h => absurd h ap.s)) (fun b h => h.1), OwnW.mono (OwnW.fr hs4 f68 (by simp; exact fun h => absurd h ap.s)) (fun b h => h.1), w1.heap.size, rfl, pn, hn6.fr F8 (by simpa using nbs)⟩
    · have e : S.clearC slot M.c = ⟨.done, S.l, S.seen⟩ := by unfold Sw.clearC; rw [if_neg (by omega), if_neg (by omega)]
      have E := Lib.hid e; clear e
      go_region_held3 (fun w' => Fr [] W4 w') (repeat (first | assumption | exact Fr.refl _ _ | refine Fr.drew ?_ | refine Fr.set1 ?_ _ | refine Fr.alloc ?_ _ | refine Fr.drewN ?_ _ | exact Fr.nil (by assumption))) (first | (go_at_call 115; refine (config_any M.c _).mono ?_; rintro e w1 ⟨rfl, hf⟩; replace hf : Fr [] W4 w1 := Fr.trans (by (first | assumption | exact Fr.refl _ _ | exact (Fr.refl _ _).drew | exact Fr.drew (by assumption))) hf))
      go_wp2_with fail
      (first | go_end0 | (refine bodyPost_ret (results_none rfl _ _ _) rfl ?_))
      rw [E.out]
      have F5 := F4.trans hf.nil
      exact ⟨rfl, SwQ.of F5 h4s, hm4.fr0 hf, Blk.fr0 hg4 hf, _, _, _, hB4.fr0 hf, RowE.mono (RowE.fr0 hl4 hf) (fun b h => h.1), OwnW.mono (OwnW.fr hs4 hf (by simp)) (fun b h => h.1), rfl⟩
end Go.Proofs.Ytaddjigmdeejlaa
