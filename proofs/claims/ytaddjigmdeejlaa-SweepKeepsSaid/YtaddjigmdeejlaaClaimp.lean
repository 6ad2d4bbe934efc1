/- Claims, in plain words: what a step makes of one. No program in sight. -/
import Derived.Test.YtaddjigmdeejlaaModel
namespace Go.Ss

inductive CSt where
  | done
  | look
  | take

def CSt.isDone : CSt → Bool
  | .done => true
  | .look => false
  | .take => false

/-- a claim: what its next step is, from where it looks, which slot it looks at (0: none yet), how many it looked at, the word, what it got, and where the next one begins -/
structure Cl where
  st : CSt
  from_ : Int
  at_ : Int
  looked : Int
  word : Int
  got : Int
  next : Int

def Cl.new (from_ : Int) : Cl := ⟨.look, from_, 0, 0, 0, 0, from_⟩
def Cl.atOf (C : Cl) (most : Int) : Int := if 0 < C.at_ then C.at_ else if 1 ≤ C.from_ ∧ C.from_ ≤ most then C.from_ else 1
def Cl.begin (C : Cl) (most : Int) : Cl := ⟨C.st, C.from_, C.atOf most, C.looked, C.word, C.got, C.next⟩
def Cl.goes (C : Cl) (most : Int) : Cl := ⟨if most ≤ C.looked + 1 then .done else .look, C.from_, C.at_ % most + 1, C.looked + 1, C.word, C.got, C.next⟩
def Cl.lookC (C : Cl) (most w : Int) : Cl :=
  if sState w = 0 then ⟨.take, C.from_, C.atOf most, C.looked, w, C.got, C.next⟩ else Cl.goes ⟨C.st, C.from_, C.atOf most, C.looked, w, C.got, C.next⟩ most
def Cl.lookS (C : Cl) (M : Mm) : Cl × Mm := (C.lookC M.c.cap (M.meta_ (C.atOf M.c.cap)).2, (M.meta_ (C.atOf M.c.cap)).1)
def Cl.takeC (C : Cl) (most : Int) (ok : Bool) : Cl :=
  if ok = true then ⟨.done, C.from_, C.at_, C.looked, C.word, packW C.at_ (sGen C.word), C.at_ % most + 1⟩ else C.goes most
def Cl.takeS (C : Cl) (M : Mm) : Cl × Mm :=
  (C.takeC M.c.cap (M.take C.at_ C.word (sMeta 1 (sGen C.word))).2, (M.take C.at_ C.word (sMeta 1 (sGen C.word))).1)
def Cl.step (C : Cl) (M : Mm) : Cl × Mm :=
  match C.st with
  | .done => (C, M)
  | .look => C.lookS M
  | .take => C.takeS M

/-- the shape of a claim among so many slots -/
structure Cl.Ok (C : Cl) (most : Int) : Prop where
  a0 : 0 ≤ C.at_
  a1 : C.at_ ≤ 64
  l0 : 0 ≤ C.looked
  l1 : C.st ≠ .done → C.looked < most
  w0 : 0 ≤ C.word
  w1 : C.word < 18446744073709551616

theorem Cl.new_ok (f most : Int) (h : 1 ≤ most) : (Cl.new f).Ok most :=
  ⟨Int.le_refl _, by show (0 : Int) ≤ 64; omega, Int.le_refl _, fun _ => by show (0 : Int) < _; omega, Int.le_refl _, by show (0 : Int) < _; omega⟩
theorem Cl.atOf_bd (C : Cl) (most : Int) (a0 : 0 ≤ C.at_) (a1 : C.at_ ≤ 64) (m : most ≤ 64) : 1 ≤ C.atOf most ∧ C.atOf most ≤ 64 := by
  unfold Cl.atOf; split
  · omega
  · split <;> omega
theorem Cl.goes_ok {C : Cl} {most : Int} (a0 : 0 ≤ C.at_) (l0 : 0 ≤ C.looked) (w0 : 0 ≤ C.word) (w1 : C.word < 18446744073709551616) (m0 : 1 ≤ most) (m1 : most ≤ 64) : (C.goes most).Ok most := by
  refine ⟨?_, ?_, ?_, ?_, w0, w1⟩
  · show 0 ≤ C.at_ % most + 1; have := Int.emod_nonneg C.at_ (b := most) (by omega); omega
  · show C.at_ % most + 1 ≤ 64; have := Int.emod_lt_of_pos C.at_ (b := most) (by omega); omega
  · show 0 ≤ C.looked + 1; omega
  · intro h; show C.looked + 1 < most
    unfold Cl.goes at h; simp only at h
    by_cases hm : most ≤ C.looked + 1
    · rw [if_pos hm] at h; exact absurd rfl h
    · omega
theorem Cl.lookC_ok {C : Cl} {most : Int} (h : C.Ok most) (hs : C.looked < most) (m0 : 1 ≤ most) (m1 : most ≤ 64) (w : Int) (w0 : 0 ≤ w) (w1 : w < 18446744073709551616) : (C.lookC most w).Ok most := by
  have hb := C.atOf_bd most h.a0 h.a1 m1
  unfold Cl.lookC; split
  · exact ⟨by show 0 ≤ C.atOf most; omega, hb.2, h.l0, fun _ => hs, w0, w1⟩
  · exact Cl.goes_ok (by show 0 ≤ C.atOf most; omega) h.l0 w0 w1 m0 m1
theorem Cl.takeC_ok {C : Cl} {most : Int} (h : C.Ok most) (m0 : 1 ≤ most) (m1 : most ≤ 64) (ok : Bool) : (C.takeC most ok).Ok most := by
  unfold Cl.takeC; split
  · exact ⟨h.a0, h.a1, h.l0, fun h => absurd rfl h, h.w0, h.w1⟩
  · exact Cl.goes_ok h.a0 h.l0 h.w0 h.w1 m0 m1
theorem Cl.step_ok {C : Cl} {M : Mm} (hM : M.Ok) (h : C.Ok M.c.cap) : (C.step M).1.Ok M.c.cap := by
  have m0 := hM.r.c0
  have m1 := hM.r.c1
  cases hs : C.st with
  | done => unfold Cl.step; rw [hs]; exact h
  | look =>
    have e : (C.step M).1 = C.lookC M.c.cap (M.meta_ (C.atOf M.c.cap)).2 := by unfold Cl.step; rw [hs]; rfl
    rw [e]
    have hw := Bk.access_old M.b 1 (M.c.cell (C.atOf M.c.cap) 0) 0 (fun x => (x, true)) hM.ws
    exact Cl.lookC_ok h (h.l1 (by rw [hs]; intro h; cases h)) m0 m1 _ hw.1 hw.2
  | take =>
    have e : (C.step M).1 = C.takeC M.c.cap (M.take C.at_ C.word (sMeta 1 (sGen C.word))).2 := by unfold Cl.step; rw [hs]; rfl
    rw [e]; exact Cl.takeC_ok h m0 m1 _
theorem Cl.step_c (C : Cl) (M : Mm) : (C.step M).2.c = M.c := by unfold Cl.step; split <;> rfl
end Go.Ss
