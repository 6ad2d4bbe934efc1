/- Sweeps, in plain words: what a step makes of one. -/
import Derived.Test.YtaddjigmdeejlaaClone
import Derived.Test.YtaddjigmdeejlaaBack
namespace Go.Proofs.Ytaddjigmdeejlaa
open Go.RowKit Go.Ss

inductive SwSt where
  | done
  | clear (slot : Int)
  | look
  | free (others : List En)
def SwSt.isDone : SwSt → Bool
  | .done => true
  | .clear _ => false
  | .look => false
  | .free _ => false

structure Sw where
  st : SwSt
  l : List En
  seen : List Int

def Sw.new (l : List En) : Sw := ⟨.clear 0, l, []⟩
def Sw.clearC (S : Sw) (slot : Int) (c : Cfg) : Sw := ⟨if slot + 1 < c.slots then .clear (slot + 1) else if c.keep ≤ (S.l.length : Int) then .look else .done, S.l, S.seen⟩
def Sw.lookR (S : Sw) (M : Mm) : Mm × Int := M.reserved ((S.seen.length : Int) / M.c.slots) ((S.seen.length : Int) % M.c.slots)
def freeSt (l : List En) : SwSt := if l = [] then .done else .free l
def Sw.lookC (S : Sw) (c : Cfg) (era : Int) : Sw :=
  if (S.seen.length : Int) + 1 < c.threads * c.slots then ⟨.look, S.l, S.seen ++ [era]⟩
  else ⟨freeSt (drop_ S.l (S.seen ++ [era])), keep S.l (S.seen ++ [era]), S.seen ++ [era]⟩
def Sw.step (S : Sw) (M : Mm) (G : Gd) : Sw × Mm × Gd :=
  match S.st with
  | .done => (S, M, G)
  | .clear slot => (S.clearC slot M.c, (G.clear M slot).2, (G.clear M slot).1)
  | .look => (S.lookC M.c (S.lookR M).2, (S.lookR M).1, G)
  | .free o => (⟨freeSt o.tail, S.l, S.seen⟩, Mm.back M (o.headD ⟨0, 0, 0⟩).node, G)

/-- the shape of a sweep -/
structure Sw.Ok (S : Sw) (c : Cfg) : Prop where
  l0 : S.l.length ≤ 100
  es : Es S.l
  ws : Ws S.seen
  s0 : ∀ slot, S.st = .clear slot → 0 ≤ slot ∧ slot < c.slots
  s1 : S.st = .look → (S.seen.length : Int) < c.threads * c.slots
  s2 : (S.seen.length : Int) ≤ 64
  s3 : ∀ o, S.st = .free o → o ≠ [] ∧ Es o ∧ o.length ≤ 100
  s4 : ∀ slot, S.st = .clear slot → S.seen = []

theorem Sw.step_c (S : Sw) (M : Mm) (G : Gd) : (S.step M G).2.1.c = M.c := by unfold Sw.step; split <;> rfl
theorem keep_es {l : List En} (h : Es l) (s : List Int) : Es (keep l s) := fun e he => h e (List.mem_filter.1 he).1
theorem drop_es {l : List En} (h : Es l) (s : List Int) : Es (drop_ l s) := fun e he => h e (List.mem_filter.1 he).1
theorem slots_bd {c : Cfg} (h : c.R) : 1 ≤ c.threads * c.slots ∧ c.threads * c.slots ≤ 64 := by
  have := h.first_bd; unfold Cfg.first at this; omega
theorem freeSt_ne {l o : List En} (h : freeSt l = .free o) : o = l ∧ l ≠ [] := by
  unfold freeSt at h; split at h
  · cases h
  · cases h; exact ⟨rfl, by assumption⟩
theorem freeSt_clear {l : List En} {s : Int} (h : freeSt l = .clear s) : False := by unfold freeSt at h; split at h <;> cases h
theorem freeSt_look {l : List En} (h : freeSt l = .look) : False := by unfold freeSt at h; split at h <;> cases h

theorem Sw.step_ok {S : Sw} {M : Mm} {G : Gd} (hM : M.Ok) (h : S.Ok M.c) : (S.step M G).1.Ok M.c := by
  have hb := slots_bd hM.r
  cases hs : S.st with
  | done => unfold Sw.step; simp only [hs]; exact h
  | clear slot =>
    have hsl := h.s0 slot hs
    have e : (S.step M G).1 = S.clearC slot M.c := by unfold Sw.step; simp only [hs]
    rw [e]
    have h4 := h.s4 slot hs
    refine ⟨h.l0, h.es, h.ws, ?_, ?_, h.s2, ?_, fun _ _ => h4⟩
    · intro s2 hs2
      unfold Sw.clearC at hs2; simp only at hs2
      split at hs2
      · cases hs2; omega
      · split at hs2 <;> cases hs2
    · intro _; show (S.seen.length : Int) < _; rw [h4]; simp; omega
    · intro o ho
      unfold Sw.clearC at ho; simp only at ho
      split at ho
      · cases ho
      · split at ho <;> cases ho
  | look =>
    have e : (S.step M G).1 = S.lookC M.c (S.lookR M).2 := by unfold Sw.step; simp only [hs]
    rw [e]
    have h1 := h.s1 hs
    have hw := Bk.access_old M.b 1 (M.c.resv ((S.seen.length : Int) / M.c.slots) ((S.seen.length : Int) % M.c.slots)) 0 fLoad hM.ws
    have hws : Ws (S.seen ++ [(S.lookR M).2]) := by
      intro x hx
      rcases List.mem_append.1 hx with hx | hx
      · exact h.ws x hx
      · rw [List.mem_singleton.1 hx]; exact hw
    unfold Sw.lookC
    split
    · exact ⟨h.l0, h.es, hws, (fun s hh => by cases hh), (fun _ => by simp; omega), (by simp; omega), (fun o ho => by cases ho), (fun s hh => by cases hh)⟩
    · have hk := keep_le S.l (S.seen ++ [(S.lookR M).2])
      have hd := drop_le S.l (S.seen ++ [(S.lookR M).2])
      have hl := h.l0
      exact ⟨(by show (keep _ _).length ≤ 100; omega), keep_es h.es _, hws, fun s hh => (freeSt_clear hh).elim, fun hh => (freeSt_look hh).elim, (by simp; omega),
        fun o ho => by obtain ⟨rfl, hne⟩ := freeSt_ne ho; exact ⟨hne, drop_es h.es _, by omega⟩, fun s hh => (freeSt_clear hh).elim⟩
  | free o =>
    have e : (S.step M G).1 = ⟨freeSt o.tail, S.l, S.seen⟩ := by unfold Sw.step; simp only [hs]
    rw [e]
    have h3 := h.s3 o hs
    refine ⟨h.l0, h.es, h.ws, fun s hh => (freeSt_clear hh).elim, fun hh => (freeSt_look hh).elim, h.s2, ?_, fun s hh => (freeSt_clear hh).elim⟩
    intro o' ho'
    obtain ⟨rfl, hne⟩ := freeSt_ne ho'
    exact ⟨hne, fun e he => h3.2.1 e (List.mem_of_mem_tail he), by rw [List.length_tail]; omega⟩
theorem Sw.new_ok {l : List En} (h : l.length ≤ 100) (he : Es l) {c : Cfg} (hc : c.R) : (Sw.new l).Ok c := by
  have hs := hc.s0
  refine ⟨h, he, (fun x hx => by cases hx), fun s hh => ?_, (fun hh => by cases hh), (by show (0 : Int) ≤ 64; omega), (fun o ho => by cases ho), fun _ _ => rfl⟩
  cases hh; omega
end Go.Proofs.Ytaddjigmdeejlaa
