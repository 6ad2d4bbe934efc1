/- What a sweep of slots keeps: which words the slots hold behind it. -/
import Derived.Test.YtaddjigmdeejlaaSweepe
namespace Go.Proofs.Ytaddjigmdeejlaa
open Go.RowKit Go.Ss

/-- what it keeps -/
def kp (few : Bool) (S : List Int) (x : En) : Bool := few || cov x S
def mineK (l : List En) (k : Nat) : En := ⟨packW ((k : Int) + 1) 0, (enAt l k).birth, (enAt l k).retired⟩
theorem mineK_get {l : List En} {k : Nat} (h : k < l.length) : (mineL l l.length)[k]? = some (mineK l k) := mineL_get l _ k h
structure KeptR (c : Cfg) (l : List En) (few : Bool) (K : List En) (S : List Int) (M : Mm) : Prop where
  k : K = (mineL l l.length).filter (kp few S)
  mc : M.c = c
  mt : ∀ k : Nat, k < l.length → met M ((k : Int) + 1) = if kp few S (mineK l k) then sMeta 1 0 else sAfter 0 c.last
  sl : S.length ≤ 64
structure KInv (c : Cfg) (l : List En) (M : Mm) : Prop where
  m : M.Ok
  mc : M.c = c
  mt : ∀ k : Nat, k < l.length → met M ((k : Int) + 1) = sMeta 1 0
theorem KInv.start {c : Cfg} (hc : c.R) {l : List En} (hl : (l.length : Int) ≤ c.cap) : KInv c l (slotsM c l.length) :=
  ⟨slotsM_ok hc _, slotsM_c c _, fun k hk => slotsM_met hc _ hl k hk⟩
theorem KInv.reserve {c : Cfg} {l : List En} (hl : (l.length : Int) ≤ c.cap) {M : Mm} (h : KInv c l M) (t s era : Int) (e0 : 0 ≤ era) (e1 : era < 18446744073709551616) : KInv c l (M.reserve t s era) :=
  ⟨Mm.reserve_ok h.m _ _ _ e0 e1, h.mc, fun k hk => by rw [reserve_met h.m (by omega) (by rw [h.mc]; omega)]; exact h.mt k hk⟩
theorem drop_has {l : List En} {S : List Int} {k : Nat} (hk : k < l.length) : (∃ e ∈ drop_ (mineL l l.length) S, e.node = packW ((k : Int) + 1) 0) ↔ cov (mineK l k) S = false := by
  constructor
  · rintro ⟨e, he, hn⟩
    obtain ⟨h1, h2⟩ := List.mem_filter.1 he
    obtain ⟨j, hj, rfl⟩ := List.mem_map.1 h1
    have := pack_inj hn
    have hjk : j = k := by omega
    subst hjk
    have h3 : (!cov (mineK l j) S) = true := h2
    simpa using h3
  · intro h
    refine ⟨mineK l k, List.mem_filter.2 ⟨List.mem_of_getElem? (mineK_get hk), by simp [h]⟩, rfl⟩
theorem keeps_all {c : Cfg} {l : List En} (hc : c.R) (hl : (l.length : Int) ≤ c.cap) {M : Mm} (h : KInv c l M) :
    ∃ (N : Nat) (K : List En) (S : List Int) (Mf : Mm), Sst.runs N (x15 c l M) = ⟨⟨.done, K, S⟩, Mf, ⟨0, 0, 0⟩⟩ ∧ (∀ j, j < N → (Sst.runs j (x15 c l M)).s.st.isDone = false) ∧ (N : Int) < 300 ∧
      KeptR c l (decide ((l.length : Int) < c.keep)) K S Mf := by
  have hts := slots_bd hc
  have h0 := hc.s0
  have h1 := hc.s1
  have hc64 := hc.c1
  have hLen := mineL_length l l.length
  obtain ⟨n, hn⟩ : ∃ n : Nat, c.slots = n := ⟨c.slots.toNat, by omega⟩
  obtain ⟨T, hT⟩ : ∃ T : Nat, c.threads * c.slots = T := ⟨(c.threads * c.slots).toNat, by omega⟩
  by_cases hf : (l.length : Int) < c.keep
  · obtain ⟨hend, hnd⟩ := Sst.all_few (mineL l l.length) M ⟨0, 0, 0⟩ n (by rw [h.mc]; exact hn) (by omega) (by rw [h.mc, hLen]; omega)
    refine ⟨n, _, _, _, hend, hnd, by omega, ⟨?_, by rw [clrM_c]; exact h.mc, fun k hk => ?_, by simp⟩⟩
    · symm; rw [List.filter_eq_self]; intro x _; simp [kp, hf]
    · rw [clrM_met h.m _ _ (by omega) (by rw [h.mc]; omega), h.mt k hk, if_pos (by simp [kp, hf])]
  · obtain ⟨hend, hnd⟩ := Sst.all_many (mineL l l.length) M ⟨0, 0, 0⟩ h.m n T (by rw [h.mc]; exact hn) (by rw [h.mc]; exact hT) (by omega) (by rw [h.mc, hLen]; omega)
    have hD := drop_le (mineL l l.length) (seenOf M 0 n T)
    rw [hLen] at hD
    have hM2 : (seenM (clrM 0 M n) T).c = c := by rw [seenM_c, clrM_c]; exact h.mc
    refine ⟨_, _, _, _, hend, hnd, by show ((n + T + (drop_ (mineL l l.length) (seenOf M 0 n T)).length : Nat) : Int) < 300; omega, ⟨?_, by rw [backs_c]; exact hM2, fun k hk => ?_, by show (seenOf M 0 n T).length ≤ 64; unfold seenOf; rw [seenL_length]; omega⟩⟩
    · unfold keep; congr 1; funext x; simp [kp, hf]
    · have hof : Of c (mineL l l.length) := mineL_of hl
      rw [backs_met (seenM_ok (clrM_ok h.m _ _) _) (by rw [hM2]; exact hof.drop _) (by omega) (by rw [hM2]; omega), hM2, seenM_met, clrM_met h.m _ _ (by omega) (by rw [h.mc]; omega), h.mt k hk]
      by_cases hcv : cov (mineK l k) (seenOf M 0 n T) = false
      · rw [if_pos ((drop_has hk).2 hcv), if_neg (by simp [kp, hf, hcv])]
      · rw [if_neg (fun h => hcv ((drop_has hk).1 h)), if_pos (by simp [kp]; right; simpa using hcv)]

def cnt (l : List En) (p : En → Bool) (k : Nat) : Nat := (((mineL l l.length).take k).filter p).length
theorem filter_at {α : Type} {p : α → Bool} {l : List α} {k : Nat} {x : α} (h : l[k]? = some x) (hp : p x = true) : (l.filter p)[((l.take k).filter p).length]? = some x := by
  obtain ⟨hk, hx⟩ := List.getElem?_eq_some_iff.1 h
  have e : l = l.take k ++ (x :: l.drop (k + 1)) := by
    rw [← hx, ← List.drop_eq_getElem_cons hk, List.take_append_drop]
  conv => lhs; arg 1; rw [e]
  rw [List.filter_append, List.getElem?_append_right (Nat.le_refl _), Nat.sub_self, List.filter_cons_of_pos hp]
  rfl
theorem cnt_succ {l : List En} {p : En → Bool} {k : Nat} (hk : k < l.length) : cnt l p (k + 1) = cnt l p k + if p (mineK l k) then 1 else 0 := by
  unfold cnt
  rw [List.take_add_one, mineK_get hk]
  simp only [Option.toList_some, List.filter_append, List.length_append]
  cases hp : p (mineK l k)
  · simp [hp]
  · simp [hp]
theorem cnt_end (l : List En) (p : En → Bool) : cnt l p l.length = ((mineL l l.length).filter p).length := by
  unfold cnt; rw [List.take_of_length_le (by rw [mineL_length]; exact Nat.le_refl _)]
theorem after_state {last : Int} (h : 0 ≤ last) : sState (sAfter 0 last) ≠ 1 := by
  unfold sState sAfter clamp; split <;> omega
end Go.Proofs.Ytaddjigmdeejlaa
