/- A sweep is played to its end (ends of layer 15). -/
import Derived.Test.YtaddjigmdeejlaaSweepc
import Derived.Test.YtaddjigmdeejlaaSweepq
namespace Go.Proofs.Ytaddjigmdeejlaa
open Go.RowKit Go.Ss

theorem SwF.mono {P P' : Nat → Prop} {w : World} {bs : Nat} {st : SwSt} {fv : Value} (h : SwF P w bs st fv) (hp : ∀ b, P b → b < w.heap.size → P' b) : SwF P' w bs st fv := by
  cases st with
  | done => exact h
  | clear slot =>
    obtain ⟨p, q, hv, h1, h2, h3, h4⟩ := h
    exact ⟨p, q, hv, hp p h1 h3.lt, hp q h2 h4.lt, h3, h4⟩
  | look =>
    obtain ⟨q, hv, h2, h4⟩ := h
    exact ⟨q, hv, hp q h2 h4.lt, h4⟩
  | free o =>
    obtain ⟨p, q, vo, hv, h1, h2, h3, h5, h4⟩ := h
    exact ⟨p, q, vo, hv, hp p h1 h3.lt, hp q h2 h4.lt, h3, RowE.mono (RowE.old h5) (fun b hb => hp b hb.1 hb.2), h4⟩
theorem OwnW.old {P : Nat → Prop} {w : World} {v : Value} {l : List Int} (h : OwnW P w v l) : OwnW (fun b => P b ∧ b < w.heap.size) w v l :=
  ⟨h.1, fun g hg => ⟨h.2 g hg, (h.1.lt g hg).2⟩⟩
theorem SwAt.mono {P P' : Nat → Prop} {w : World} {bs : Nat} {S : Sw} (h : SwAt P w bs S) (hp : ∀ b, P b → b < w.heap.size → P' b) : SwAt P' w bs S := by
  obtain ⟨fv, vl, vs, hB, h1, h2, h3⟩ := h
  exact ⟨fv, vl, vs, hB, RowE.mono (RowE.old h1) (fun b hb => hp b hb.1 hb.2), OwnW.mono (OwnW.old h2) (fun b hb => hp b hb.1 hb.2), h3.mono hp⟩

structure SstAt (P : Nat → Prop) (bs bg bm bb bc : Nat) (x : Sst) (w : World) : Prop where
  s : SwAt P w bs x.s
  m : MemAt w bm bb bc x.m
  g : GdAt w bg x.g
def EndsOut (P : Nat → Prop) (bs bg bm bb bc : Nat) (x : Sst) (N : Nat) (w : World) (e : Ending) (w' : World) : Prop :=
  e = .returned (.int .i64 (N : Int)) ∧ FrQ (SwQ P bs bg bb bc) w w' ∧ SstAt P bs bg bm bb bc (Sst.runs N x) w'
def LoopE (P : Nat → Prop) (bs bg bm bb bc : Nat) (x : Sst) (N : Nat) (W : World) (i : Value) (wr : World) : Prop :=
  ∃ k : Nat, k ≤ N ∧ i = .int .i64 k ∧ FrQ (SwQ P bs bg bb bc) W wr ∧ SstAt P bs bg bm bb bc (Sst.runs k x) wr

set_option maxRecDepth 100000 in
theorem ends_any (P : Nat → Prop) (bs bg bm bb bc : Nat) (x : Sst) (c : Cfg) (N : Nat) (most : Int) (w : World) (ap : Apt P w bs bg bm bb bc) (hx : SstAt P bs bg bm bb bc x w) (ok : x.Ok c)
    (hd : (Sst.runs N x).s.st.isDone = true) (hnd : ∀ j, j < N → (Sst.runs j x).s.st.isDone = false) (hN : (N : Int) < most) (hm : most ≤ 1000) :
    Calls Try.prog 81 #[.pointer (some ⟨bs, 0, none⟩), .pointer (some ⟨bm, 0, none⟩), .pointer (some ⟨bg, 0, none⟩), .int .i64 most] w (EndsOut P bs bg bm bb bc x N w) := by
  have HD := Lib.hid hd; clear hd
  have HND := Lib.hid hnd; clear hnd
  go_enter Try.func81, Try.ntmps81
  go_wp2_with fail
  go_loopw [11] (fun i wr => LoopE P bs bg bm bb bc x N w i wr) (fun i _ => N - (intOf i).toNat)
  case atStart => exact ⟨0, Nat.zero_le _, rfl, FrQ.refl _ _, hx⟩
  case round =>
    obtain ⟨k, hk, rfl, hF, hxr⟩ := hrel
    have hsum := IntWalk.i64_in ((k : Int) + 1) (by omega)
    have hkm : (k : Int) < most := by omega
    by_cases hlt : k < N
    · have hst : (Sst.runs k x).s.st.isDone = false := HND.out k hlt
      have apr := ap.next hF.size
      have okr := ok.runs k
      have hok := okr.s
      rw [← okr.c] at hok
      have HS := Lib.hid hst; clear hst
      go_wp2_with (first | (go_at_call 82; refine (sdone_any bs _ _ hxr.s).mono ?_; rintro e w1 ⟨rfl, rfl⟩; rw [HS.out]) | (go_at_call 91; refine (sstep_any P bs bg bm bb bc _ _ _ _ apr hxr.s hxr.m hxr.g hok).mono ?_; rintro e w2 ⟨rfl, f2, hm2, hg2, hs2⟩))
      go_roundw
      case rel => exact ⟨k + 1, hlt, by simp, hF.trans f2, ⟨hs2, hm2, hg2⟩⟩
      case measure => simp [intOf]; omega
    · have hkn : k = N := by omega
      subst hkn
      go_wp2_with (first | (go_at_call 82; refine (sdone_any bs _ _ hxr.s).mono ?_; rintro e w1 ⟨rfl, rfl⟩; rw [HD.out]))
      go_ret
      exact ⟨rfl, hF, hxr⟩
end Go.Proofs.Ytaddjigmdeejlaa
