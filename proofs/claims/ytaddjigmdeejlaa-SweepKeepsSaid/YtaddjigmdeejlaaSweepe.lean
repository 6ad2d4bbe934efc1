/- What giving back does to reservations and to slots' words; what publishing does. -/
import Derived.Test.YtaddjigmdeejlaaLawSetup
namespace Go.Proofs.Ytaddjigmdeejlaa
open Go.RowKit Go.Ss

theorem back_pack {M : Mm} {i : Int} (i0 : 0 ≤ i) (i1 : i ≤ 4294967295) : Mm.back M (packW i 0) = M.release i (sAfter 0 M.c.last) := by
  have e1 : hidx (packW i 0) = i := by unfold hidx packW; omega
  have e2 : hgen (packW i 0) = 0 := by unfold hgen packW; omega
  unfold Mm.back; rw [e1, e2]
/-- entries of some of a world's slots -/
def Of (c : Cfg) (o : List En) : Prop := ∀ e ∈ o, ∃ i : Int, e.node = packW i 0 ∧ 1 ≤ i ∧ i ≤ c.cap
theorem backs_c (o : List En) : ∀ (M : Mm), (backs M o).c = M.c := by
  induction o with
  | nil => intro M; rfl
  | cons e o ih => intro M; exact (ih (Mm.back M e.node)).trans rfl
theorem backs_ok {o : List En} : ∀ {M : Mm}, M.Ok → (backs M o).Ok := by
  induction o with
  | nil => intro M h; exact h
  | cons e o ih => intro M h; exact ih (Mm.back_ok h e.node)
theorem backs_res {o : List En} : ∀ {M : Mm} (_ : M.Ok) (_ : Of M.c o) {t s : Int} (_ : 0 ≤ t) (_ : t < M.c.threads) (_ : 0 ≤ s) (_ : s < M.c.slots), res (backs M o) t s = res M t s := by
  induction o with
  | nil => intros; rfl
  | cons e o ih =>
    intro M ok ho t s t0 t1 s0 s1
    obtain ⟨i, he, i0, i1⟩ := ho e (by simp)
    have hcap := ok.r.c1
    have h := ih (Mm.back_ok ok e.node) (fun x hx => ho x (by simp [hx])) t0 t1 s0 s1
    show res (backs (Mm.back M e.node) o) t s = _
    rw [h, he, back_pack (by omega) (by omega)]
    exact release_res ok (by omega) i1 t0 t1 s0 s1
theorem pack_inj {i j : Int} (h : packW i 0 = packW j 0) : i = j := by unfold packW at h; omega
theorem backs_met {o : List En} : ∀ {M : Mm} (_ : M.Ok) (_ : Of M.c o) {j : Int} (_ : 1 ≤ j) (_ : j ≤ M.c.cap),
    met (backs M o) j = if ∃ e ∈ o, e.node = packW j 0 then sAfter 0 M.c.last else met M j := by
  induction o with
  | nil => intros; rw [if_neg (by simp)]; rfl
  | cons e o ih =>
    intro M ok ho j j0 j1
    obtain ⟨i, he, i0, i1⟩ := ho e (by simp)
    have hcap := ok.r.c1
    have h := ih (Mm.back_ok ok e.node) (fun x hx => ho x (by simp [hx])) j0 j1
    show met (backs (Mm.back M e.node) o) j = _
    rw [h]
    have hc : (Mm.back M e.node).c = M.c := rfl
    rw [hc]
    by_cases h1 : ∃ e' ∈ o, e'.node = packW j 0
    · rw [if_pos h1, if_pos (by obtain ⟨e', h2, h3⟩ := h1; exact ⟨e', by simp [h2], h3⟩)]
    · rw [if_neg h1, he, back_pack (by omega) (by omega), release_met ok (by omega) i1 (by omega) j1]
      by_cases h2 : i = j
      · rw [if_pos h2, if_pos ⟨e, by simp, by rw [he, h2]⟩]
      · rw [if_neg h2, if_neg]
        rintro ⟨e', h3, h4⟩
        rcases List.mem_cons.1 h3 with rfl | h3
        · exact h2 (pack_inj (he.symm.trans h4))
        · exact h1 ⟨e', h3, h4⟩
theorem mineL_of {c : Cfg} {l : List En} (h : (l.length : Int) ≤ c.cap) : Of c (mineL l l.length) := by
  intro e he
  obtain ⟨j, hj, rfl⟩ := List.mem_map.1 he
  have hj := List.mem_range.1 hj
  exact ⟨(j : Int) + 1, rfl, by omega, by omega⟩
theorem Of.drop {c : Cfg} {l : List En} (h : Of c l) (s : List Int) : Of c (drop_ l s) := fun e he => h e (List.mem_filter.1 he).1
theorem seenM_res (M : Mm) (T : Nat) (t s : Int) : res (seenM M T) t s = res M t s := by unfold res; rw [seenM_cells, seenM_c]
theorem seenM_met (M : Mm) (T : Nat) (i : Int) : met (seenM M T) i = met M i := by unfold met; rw [seenM_cells, seenM_c]

/-- a thread 0 that published, in a world in which no other reserved -/
structure OwnInv (c : Cfg) (G : Gd) (M : Mm) : Prop where
  g : G.Ok
  th : G.thread = 0
  m : M.Ok
  mc : M.c = c
  z : ∀ t s, 0 ≤ t → t < c.threads → 0 ≤ s → s < c.slots → t ≠ 0 → res M t s = 0
theorem OwnInv.publish {c : Cfg} {G : Gd} {M : Mm} (h : OwnInv c G M) {era : Int} (e0 : 0 ≤ era) (e1 : era < 18446744073709551616) : OwnInv c (G.publish M era).1 (G.publish M era).2.1 := by
  have hs8 := h.m.r.s1
  refine ⟨Gd.publish_ok h.g hs8 era e0 e1, h.th, Mm.reserve_ok h.m _ _ _ e0 e1, h.mc, fun t s t0 t1 s0 s1 hne => ?_⟩
  show res (M.reserve G.thread _ era) t s = 0
  rw [reserve_get h.m t0 (by rw [h.mc]; exact t1) s0 (by rw [h.mc]; exact s1), h.th, if_neg (by rintro ⟨h, _⟩; exact hne h.symm)]
  exact h.z t s t0 t1 s0 s1 hne
theorem OwnInv.start {c : Cfg} (hc : c.R) (n : Nat) (hn : (n : Int) ≤ c.cap) : OwnInv c ⟨0, 0, 0⟩ (slotsM c n) :=
  ⟨⟨by decide, by decide, by decide, by decide⟩, rfl, slotsM_ok hc n, slotsM_c c n, fun _ _ t0 t1 s0 s1 _ => slotsM_res hc t0 t1 s0 s1 n hn⟩
theorem OwnInv.seen {c : Cfg} {G : Gd} {M : Mm} (h : OwnInv c G M) (n T : Nat) (hn : c.slots = n) (hT : c.threads * c.slots = T) : ∀ y ∈ seenOf M G.thread n T, y = 0 := by
  intro y hy
  obtain ⟨t', s', u0, u1, v0, v1, e⟩ := seenOf_mem h.m G.thread n T (by rw [h.mc]; exact hT) (by rw [h.mc]; exact hn) hy
  rw [e, h.th]; split
  · rfl
  · rename_i hne; rw [h.mc] at u1 v1; exact h.z _ _ u0 u1 v0 v1 (fun h => hne h.symm)
theorem OwnInv.cleared {c : Cfg} {G : Gd} {M : Mm} (h : OwnInv c G M) (n T : Nat) (hn : c.slots = n) {o : List En} (ho : Of c o) {s : Int} (s0 : 0 ≤ s) (s1 : s < c.slots) :
    res (backs (seenM (clrM G.thread M n) T) o) 0 s = 0 := by
  have hr := h.m.r
  rw [h.mc] at hr
  have ht := hr.t0
  rw [backs_res (seenM_ok (clrM_ok h.m _ _) _) (by rw [seenM_c, clrM_c, h.mc]; exact ho) (by omega) (by rw [seenM_c, clrM_c, h.mc]; omega) s0 (by rw [seenM_c, clrM_c, h.mc]; exact s1), seenM_res,
    clrM_res h.m _ _ (by omega) (by rw [h.mc]; omega) s0 (by rw [h.mc]; exact s1), if_pos ⟨h.th, by omega⟩]
/-- a word of an argument, in a later world -/
theorem SlI.word {S : List Nat} {w w' : World} {a : Option Addr} {n cap k : Nat} {l : List Int} (h : SlI .u64 w (.slice a n cap) l) (f : Fr S w w') (hS : ∀ b ∈ S, w.heap.size ≤ b) (hk : k < l.length) :
    ∃ x, a = some x ∧ w'.cell? (x.add k) = some (.int .u64 (l.getD k 0)) := by
  obtain ⟨a', cap', e, _, _, h3, h4⟩ := SlI.fr h f hS
  cases e
  cases a with
  | none => have := (h3 rfl).1; subst this; cases hk
  | some x => exact ⟨x, rfl, (h4 x rfl).2 k hk⟩
theorem Ws.at_ {l : List Int} (h : Ws l) {k : Nat} (hk : k < l.length) : 0 ≤ l.getD k 0 ∧ l.getD k 0 < 18446744073709551616 :=
  h _ (by rw [List.getD_eq_getElem?_getD, List.getElem?_eq_getElem hk]; exact List.getElem_mem hk)
end Go.Proofs.Ytaddjigmdeejlaa
