/- Frames over sets of blocks; entries of nodes that were retired, and slices of them. -/
import Derived.Test.YtaddjigmdeejlaaFn
import Derived.Test.YtaddjigmdeejlaaRefa
namespace Go.Ss
open Go.RowKit

/-- what was there stays, but for the blocks of Q -/
structure FrQ (Q : Nat → Prop) (w w' : World) : Prop where
  os : w'.os = w.os
  tape : w'.tape = w.tape
  output : w'.output = w.output
  size : w.heap.size ≤ w'.heap.size
  block : ∀ k, k < w.heap.size → ¬ Q k → w'.heap[k]? = w.heap[k]?

theorem FrQ.refl (Q : Nat → Prop) (w : World) : FrQ Q w w := ⟨rfl, rfl, rfl, Nat.le_refl _, fun _ _ _ => rfl⟩
theorem FrQ.trans {Q : Nat → Prop} {a b c : World} (h : FrQ Q a b) (k : FrQ Q b c) : FrQ Q a c :=
  ⟨k.os.trans h.os, k.tape.trans h.tape, k.output.trans h.output, Nat.le_trans h.size k.size,
   fun i hi hs => (k.block i (Nat.lt_of_lt_of_le hi h.size) hs).trans (h.block i hi hs)⟩
theorem FrQ.mono {Q Q' : Nat → Prop} {a b : World} (h : FrQ Q a b) (hs : ∀ x, Q x → Q' x) : FrQ Q' a b :=
  ⟨h.os, h.tape, h.output, h.size, fun i hi hn => h.block i hi (fun hx => hn (hs _ hx))⟩
theorem Fr.q {S : List Nat} {Q : Nat → Prop} {a b : World} (h : Fr S a b) (hs : ∀ x, x ∈ S → Q x) : FrQ Q a b :=
  ⟨h.os, h.tape, h.output, h.size, fun i hi hn => h.block i hi (fun hx => hn (hs _ hx))⟩
theorem Fr.q0 {Q : Nat → Prop} {a b : World} (h : Fr [] a b) : FrQ Q a b := h.q (by simp)
theorem FrQ.fr {S : List Nat} {Q : Nat → Prop} {a b : World} (h : FrQ Q a b) (hs : ∀ x, x < a.heap.size → Q x → x ∈ S) : Fr S a b :=
  ⟨h.os, h.tape, h.output, h.size, fun i hi hn => h.block i hi (fun hx => hn (hs _ hi hx))⟩
theorem FrQ.hide {Q : Nat → Prop} {w w1 w2 : World} (h0 : Fr [] w w1) (h : FrQ Q w1 w2) (hs : ∀ b, Q b → w.heap.size ≤ b) : Fr [] w w2 :=
  ⟨h.os.trans h0.os, h.tape.trans h0.tape, h.output.trans h0.output, Nat.le_trans h0.size h.size,
   fun k hk _ => (h.block k (Nat.lt_of_lt_of_le hk h0.size) (fun hx => by have := hs k hx; omega)).trans (h0.block k hk (by simp))⟩
theorem Blk.frq {Q : Nat → Prop} {w w' : World} {b T : Nat} {vs : Array Value} (h : Blk w b vs T) (f : FrQ Q w w') (hn : ¬ Q b) : Blk w' b vs T :=
  (f.block b h.lt hn).trans h
theorem Blk.ne_ {w : World} {b b' T T' : Nat} {vs vs' : Array Value} (h : Blk w b vs T) (h' : Blk w b' vs' T') (hT : T ≠ T') : b ≠ b' := by
  rintro rfl
  unfold Blk at h h'
  rw [h] at h'
  injection h' with h'
  injection h' with _ ht
  exact hT ht

structure En where
  node : Int
  birth : Int
  retired : Int
structure En.W (e : En) : Prop where
  n0 : 0 ≤ e.node
  n1 : e.node < 18446744073709551616
  b0 : 0 ≤ e.birth
  b1 : e.birth < 18446744073709551616
  r0 : 0 ≤ e.retired
  r1 : e.retired < 18446744073709551616
def Es (l : List En) : Prop := ∀ e ∈ l, e.W
def enV (e : En) : List Value := [.int .u64 e.node, .int .u64 e.birth, .int .u64 e.retired]
def flatE (l : List En) : List Value := l.flatMap enV
theorem flatE_length (l : List En) : (flatE l).length = l.length * 3 := by
  induction l with
  | nil => rfl
  | cons e l ih => simp [flatE, enV] at *; omega
theorem flatE_append (a b : List En) : flatE (a ++ b) = flatE a ++ flatE b := by simp [flatE]
theorem flatE_get (l : List En) (i : Nat) (e : En) (h : l[i]? = some e) : (flatE l)[i * 3]? = some (.int .u64 e.node) ∧ (flatE l)[i * 3 + 1]? = some (.int .u64 e.birth) ∧ (flatE l)[i * 3 + 2]? = some (.int .u64 e.retired) := by
  induction l generalizing i with
  | nil => simp at h
  | cons x l ih =>
    have hf : flatE (x :: l) = .int .u64 x.node :: .int .u64 x.birth :: .int .u64 x.retired :: flatE l := rfl
    cases i with
    | zero => simp at h; subst h; rw [hf]; exact ⟨rfl, rfl, rfl⟩
    | succ i =>
      simp at h
      have := ih i h
      rw [hf, show (i + 1) * 3 = i * 3 + 3 by omega]
      exact this
end Go.Ss
namespace Go.Proofs.Ytaddjigmdeejlaa
open Go.RowKit Go.Ss
theorem MemAt.frq {Q : Nat → Prop} {w w' : World} {bm bb bc : Nat} {M : Mm} (h : MemAt w bm bb bc M) (f : FrQ Q w w') (h0 : ¬ Q bm) (h1 : ¬ Q bb) (h2 : ¬ Q bc) : MemAt w' bm bb bc M :=
  ⟨h.mem.frq f h0, ⟨h.bank.bank.frq f h1, h.bank.cells.frq f h2, h.bank.ne, h.bank.ws, h.bank.sz⟩, h.n1, h.n2, h.ok⟩
theorem Fr.of_grown2 {w w' : World} {row : Option Nat} (g : w.grownBy w' row) : Fr row.toList w w' :=
  ⟨g.os, g.tape, g.output, g.size, fun k hk hn => g.block k hk (fun e => hn (by rw [← e]; simp))⟩
theorem cell_lt' {w : World} {a : Addr} {v : Value} (h : w.cell? a = some v) : a.block < w.heap.size := by
  unfold World.cell? at h
  split at h
  · rename_i hb; exact (Array.getElem?_eq_some_iff.1 hb).1
  · cases h
theorem cell_fr {S : List Nat} {w w' : World} {a : Addr} {v : Value} (F : Fr S w w') (h : w.cell? a = some v) (ha : a.block ∉ S) : w'.cell? a = some v :=
  (World.cell?_of_block (F.block _ (cell_lt' h) ha)).trans h
theorem cell_frq {Q : Nat → Prop} {w w' : World} {a : Addr} {v : Value} (F : FrQ Q w w') (h : w.cell? a = some v) (ha : ¬ Q a.block) : w'.cell? a = some v :=
  (World.cell?_of_block (F.block _ (cell_lt' h) ha)).trans h
theorem block_add (a : Addr) (n : Nat) : (a.add n).block = a.block := by unfold Addr.add; split <;> rfl
theorem SlP.cells_ {P : Nat → Prop} {w : World} {v : Value} {l : List Int} (h : SlP P w v l) (hpos : 0 < l.length) :
    ∃ ad cap, v = .slice (some ad) l.length cap ∧ P ad.block ∧ ∀ S w', Fr S w w' → ad.block ∉ S → ∀ j, j < l.length → w'.cell? (ad.add j) = some (.int .u64 (l.getD j 0)) := by
  obtain ⟨⟨a, cap, rfl, h1, h2, h3, h4⟩, hP⟩ := h
  cases a with
  | none => have := (h3 rfl).1; subst this; exact absurd hpos (by simp)
  | some ad =>
    refine ⟨ad, cap, rfl, hP hpos _ _ _ rfl, fun S w' F hS j hj => ?_⟩
    exact cell_fr F ((h4 ad rfl).2 j hj) (by rw [block_add]; exact hS)
theorem SlP.form2 {P : Nat → Prop} {w : World} {v : Value} {l : List Int} (h : SlP P w v l) : ∃ a cap, v = .slice a l.length cap := by
  obtain ⟨⟨a, cap, e, _⟩, _⟩ := h
  exact ⟨a, cap, e⟩
theorem SlP.frq {P Q : Nat → Prop} {w w' : World} {v : Value} {l : List Int} (h : SlP P w v l) (f : FrQ Q w w') (hS : ∀ b, Q b → ¬ P b) : SlP P w' v l := by
  obtain ⟨⟨a, cap, rfl, h1, h2, h3, h4⟩, hP⟩ := h
  refine ⟨⟨a, cap, rfl, h1, h2, h3, fun x hx => ?_⟩, hP⟩
  obtain ⟨h5, h6⟩ := h4 x hx
  refine ⟨fun h => Nat.lt_of_lt_of_le (h5 h) f.size, fun i hi => ?_⟩
  exact cell_frq f (h6 i hi) (fun hq => by rw [block_add] at hq; subst hx; exact hS _ hq (hP (by omega) _ _ _ rfl))

/-- a slice of entries, in a block of the program's own of which P tells -/
def RowE (P : Nat → Prop) (w : World) (v : Value) (l : List En) : Prop :=
  (v = .slice none 0 0 ∧ l = []) ∨
  ∃ (g off cap : Nat) (vs : Array Value), v = .slice (some ⟨g, off, none⟩) l.length cap ∧ P g ∧ Blk w g vs 106 ∧ l.length ≤ cap ∧ cap ≤ maxLen ∧
    ∀ i e, l[i]? = some e → vs[off + i * 3]? = some (.int .u64 e.node) ∧ vs[off + i * 3 + 1]? = some (.int .u64 e.birth) ∧ vs[off + i * 3 + 2]? = some (.int .u64 e.retired)

theorem RowE.frq {P Q : Nat → Prop} {w w' : World} {v : Value} {l : List En} (h : RowE P w v l) (f : FrQ Q w w') (hQ : ∀ b, P b → b < w.heap.size → ¬ Q b) : RowE P w' v l := by
  rcases h with h | ⟨g, off, cap, vs, hv, hP, hB, h1, h2, h3⟩
  · exact .inl h
  · exact .inr ⟨g, off, cap, vs, hv, hP, hB.frq f (hQ g hP hB.lt), h1, h2, h3⟩
theorem RowE.fr {P : Nat → Prop} {S : List Nat} {w w' : World} {v : Value} {l : List En} (h : RowE P w v l) (f : Fr S w w') (hS : ∀ b ∈ S, ¬ P b) : RowE P w' v l :=
  h.frq (Q := (· ∈ S)) (f.q (fun _ h => h)) (fun b hb _ hm => hS b hm hb)
theorem RowE.fr0 {P : Nat → Prop} {w w' : World} {v : Value} {l : List En} (h : RowE P w v l) (f : Fr [] w w') : RowE P w' v l := h.fr f (by simp)
theorem RowE.mono {P P' : Nat → Prop} {w : World} {v : Value} {l : List En} (h : RowE P w v l) (hp : ∀ b, P b → P' b) : RowE P' w v l := by
  rcases h with h | ⟨g, off, cap, vs, hv, hP, hr⟩
  · exact .inl h
  · exact .inr ⟨g, off, cap, vs, hv, hp g hP, hr⟩
theorem RowE.old {P : Nat → Prop} {w : World} {v : Value} {l : List En} (h : RowE P w v l) : RowE (fun b => P b ∧ b < w.heap.size) w v l := by
  rcases h with h | ⟨g, off, cap, vs, hv, hP, hB, hr⟩
  · exact .inl h
  · exact .inr ⟨g, off, cap, vs, hv, ⟨hP, hB.lt⟩, hB, hr⟩
theorem RowE.form {P : Nat → Prop} {w : World} {v : Value} {l : List En} (h : RowE P w v l) : ∃ a cap, v = .slice a l.length cap := by
  rcases h with ⟨rfl, rfl⟩ | ⟨g, off, cap, vs, hv, _⟩
  · exact ⟨none, 0, rfl⟩
  · exact ⟨_, _, hv⟩
/-- where an element's cells are -/
theorem RowE.cells {P : Nat → Prop} {w : World} {v : Value} {l : List En} (h : RowE P w v l) (hpos : 0 < l.length) :
    ∃ g off cap, v = .slice (some ⟨g, off, none⟩) l.length cap ∧ P g ∧ g < w.heap.size ∧ l.length ≤ cap ∧ cap ≤ maxLen ∧ ∀ i e, l[i]? = some e → ∀ Q w', FrQ Q w w' → ¬ Q g →
      w'.cell? ⟨g, off + i * 3, none⟩ = some (.int .u64 e.node) ∧ w'.cell? ⟨g, off + i * 3 + 1, none⟩ = some (.int .u64 e.birth) ∧ w'.cell? ⟨g, off + i * 3 + 2, none⟩ = some (.int .u64 e.retired) := by
  rcases h with ⟨rfl, rfl⟩ | ⟨g, off, cap, vs, hv, hP, hB, h1, h2, h3⟩
  · exact absurd hpos (by simp)
  · refine ⟨g, off, cap, hv, hP, hB.lt, h1, h2, fun i e he Q w' f hQ => ?_⟩
    have hB' := hB.frq f hQ
    have := h3 i e he
    exact ⟨(hB'.cell _).trans this.1, (hB'.cell _).trans this.2.1, (hB'.cell _).trans this.2.2⟩
theorem RowE.own {w : World} {base n : Nat} {v : Value} {l : List En} (h : w.ownsRow base 106 3 v n (flatE l)) (hn : n = l.length) : RowE (fun b => v.ownBlock = some b) w v l := by
  subst hn
  obtain ⟨_, h2⟩ := h
  rcases h2 with ⟨rfl, he⟩ | ⟨g, cap, cur, rfl, hb, hg, h1, h2, h3, h4⟩
  · exact .inl ⟨rfl, List.eq_nil_of_length_eq_zero he⟩
  · refine .inr ⟨g, 0, cap, cur, rfl, rfl, hg, h1, h2, fun i e he => ?_⟩
    have hf := flatE_get l i e he
    have hi : i < l.length := (List.getElem?_eq_some_iff.1 he).1
    rw [← h4] at hf
    have hk : ∀ j, j < l.length * 3 → (cur.toList.take (l.length * 3))[j]? = cur[j]? := fun j hj => by
      rw [List.getElem?_take_of_lt hj, Array.getElem?_toList]
    rw [hk _ (by omega), hk _ (by omega), hk _ (by omega)] at hf
    simpa using hf
theorem RowE.nil (P : Nat → Prop) (w : World) : RowE P w (.slice none 0 0) [] := .inl ⟨rfl, rfl⟩
end Go.Proofs.Ytaddjigmdeejlaa
