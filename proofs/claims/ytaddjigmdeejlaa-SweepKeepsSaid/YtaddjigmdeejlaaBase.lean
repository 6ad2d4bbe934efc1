/- What a call leaves as it was: frames of blocks, and blocks that are known whole. -/
import Derived.WalkKit
import Derived.WalkLawsBesides
import Derived.WalkSpells
import Derived.BigQuiet
import Derived.Deep.QuietTactic
import Derived.Deep.RegionHeld3
import Derived.Lib.Hide
import Derived.Laws.EntriesVeiled
namespace Go.Ss
open Go Go.RowKit

/-- the frame: what was there stays, but for the blocks of S -/
structure Fr (S : List Nat) (w w' : World) : Prop where
  os : w'.os = w.os
  tape : w'.tape = w.tape
  output : w'.output = w.output
  size : w.heap.size ≤ w'.heap.size
  block : ∀ k, k < w.heap.size → k ∉ S → w'.heap[k]? = w.heap[k]?

theorem Fr.refl (S : List Nat) (w : World) : Fr S w w := ⟨rfl, rfl, rfl, Nat.le_refl _, fun _ _ _ => rfl⟩

theorem Fr.trans {S : List Nat} {a b c : World} (h : Fr S a b) (k : Fr S b c) : Fr S a c :=
  ⟨k.os.trans h.os, k.tape.trans h.tape, k.output.trans h.output, Nat.le_trans h.size k.size,
   fun i hi hs => (k.block i (Nat.lt_of_lt_of_le hi h.size) hs).trans (h.block i hi hs)⟩

theorem Fr.mono {S S' : List Nat} {a b : World} (h : Fr S a b) (hs : ∀ x, x ∈ S → x ∈ S') : Fr S' a b :=
  ⟨h.os, h.tape, h.output, h.size, fun i hi hn => h.block i hi (fun hx => hn (hs _ hx))⟩

theorem Fr.nil {S : List Nat} {a b : World} (h : Fr [] a b) : Fr S a b := h.mono (fun x hx => by cases hx)

theorem Fr.alloc {S : List Nat} {a b : World} (h : Fr S a b) (o : Obj) : Fr S a (b.alloc o) :=
  h.trans ⟨rfl, rfl, rfl, by simp, fun k hk _ => Below.heap_alloc _ _ _ hk⟩

theorem Fr.drew {S : List Nat} {a b : World} (h : Fr S a b) : Fr S a b.drew := ⟨h.os, h.tape, h.output, h.size, h.block⟩
theorem Fr.drewN {S : List Nat} {a b : World} (h : Fr S a b) (n : Nat) : Fr S a (b.drewN n) := ⟨h.os, h.tape, h.output, h.size, h.block⟩

theorem Fr.setCell {S : List Nat} {a b : World} (h : Fr S a b) {p : Addr} (hp : p.block ∈ S ∨ a.heap.size ≤ p.block) (u : Value) : Fr S a (b.setCell p u) := by
  refine ⟨h.os, h.tape, h.output, by simpa [World.setCell] using h.size, fun k hk hn => ?_⟩
  have hne : k ≠ p.block := by
    rintro rfl
    rcases hp with hp | hp
    · exact hn hp
    · omega
  rw [Below.heap_setCell _ _ _ _ hne]
  exact h.block k hk hn

theorem Fr.set1 {b i : Nat} {a w : World} (h : Fr [b] a w) (u : Value) : Fr [b] a (w.setCell ⟨b, i, none⟩ u) := h.setCell (.inl (List.mem_cons_self ..)) u
theorem Fr.setM {S : List Nat} {b i : Nat} {a w : World} (h : Fr S a w) (hb : b ∈ S) (u : Value) : Fr S a (w.setCell ⟨b, i, none⟩ u) := h.setCell (.inl hb) u
theorem Fr.setN {S : List Nat} {b i : Nat} {a w : World} (h : Fr S a w) (hb : a.heap.size ≤ b) (u : Value) : Fr S a (w.setCell ⟨b, i, none⟩ u) := h.setCell (.inr hb) u

/-- a block known whole -/
def Blk (w : World) (b : Nat) (vs : Array Value) (T : Nat) : Prop := w.heap[b]? = some (.cells vs T (0, 0))

theorem Blk.cell {w : World} {b T : Nat} {vs : Array Value} (h : Blk w b vs T) (i : Nat) : w.cell? ⟨b, i, none⟩ = vs[i]? := by
  unfold World.cell?; unfold Blk at h; simp [h]
theorem Blk.frozen {w : World} {b T : Nat} {vs : Array Value} (h : Blk w b vs T) (i : Nat) : w.frozen? ⟨b, i, none⟩ = false := by
  unfold World.frozen?; unfold Blk at h; simp [h]
theorem Blk.lt {w : World} {b T : Nat} {vs : Array Value} (h : Blk w b vs T) : b < w.heap.size := by
  unfold Blk at h
  exact (Array.getElem?_eq_some_iff.1 h).1
theorem Blk.fr {S : List Nat} {w w' : World} {b T : Nat} {vs : Array Value} (h : Blk w b vs T) (f : Fr S w w') (hn : b ∉ S) : Blk w' b vs T :=
  (f.block b h.lt hn).trans h
theorem Blk.fr0 {w w' : World} {b T : Nat} {vs : Array Value} (h : Blk w b vs T) (f : Fr [] w w') : Blk w' b vs T :=
  h.fr f (by simp)
theorem Blk.alloc {w : World} {b T : Nat} {vs : Array Value} (h : Blk w b vs T) (o : Obj) : Blk (w.alloc o) b vs T :=
  h.fr0 ((Fr.refl _ _).alloc o)
theorem Blk.drew {w : World} {b T : Nat} {vs : Array Value} (h : Blk w b vs T) : Blk w.drew b vs T := h
theorem Blk.drewN {w : World} {b T : Nat} {vs : Array Value} (h : Blk w b vs T) (n : Nat) : Blk (w.drewN n) b vs T := h
theorem Blk.new (w : World) (vs : Array Value) (T : Nat) : Blk (w.alloc (.cells vs T)) w.heap.size vs T := by
  show (w.heap.push _)[w.heap.size]? = _; simp
theorem Blk.new' (w : World) (vs : Array Value) (T b : Nat) (h : b = w.heap.size) : Blk (w.alloc (.cells vs T)) b vs T := h ▸ Blk.new w vs T
theorem Blk.setCell {w : World} {b T : Nat} {vs : Array Value} (h : Blk w b vs T) (i : Nat) (u : Value) : Blk (w.setCell ⟨b, i, none⟩ u) b (vs.setIfInBounds i u) T := by
  unfold Blk at *; simp [World.setCell, Array.getElem?_modify, h]
theorem Blk.setCell_ne {w : World} {b T : Nat} {vs : Array Value} (h : Blk w b vs T) {p : Addr} (hp : b ≠ p.block) (u : Value) : Blk (w.setCell p u) b vs T := by
  unfold Blk at *; rw [Below.heap_setCell _ _ _ _ hp]; exact h

theorem Fr.setRow1 {b : Nat} {a w : World} (h : Fr [b] a w) (cs : Array Value) : Fr [b] a (w.setRow b cs) := by
  refine ⟨h.os, h.tape, h.output, by simpa [World.setRow] using h.size, fun k hk hn => ?_⟩
  rw [setRow_other _ _ _ _ (by simpa using hn)]
  exact h.block k hk hn
theorem Fr.setRowN {S : List Nat} {b : Nat} {a w : World} (h : Fr S a w) (hb : a.heap.size ≤ b) (cs : Array Value) : Fr S a (w.setRow b cs) := by
  refine ⟨h.os, h.tape, h.output, by simpa [World.setRow] using h.size, fun k hk hn => ?_⟩
  rw [setRow_other _ _ _ _ (by omega)]
  exact h.block k hk hn
theorem Blk.setRow {w : World} {b T : Nat} {vs : Array Value} (h : Blk w b vs T) (cs : Array Value) : Blk (w.setRow b cs) b cs T := setRow_heap w b vs cs T _ h
theorem Blk.setRow_ne {w : World} {b g T : Nat} {vs : Array Value} (h : Blk w b vs T) (hn : b ≠ g) (cs : Array Value) : Blk (w.setRow g cs) b vs T := by
  unfold Blk at *; rw [setRow_other _ _ _ _ hn]; exact h
def zeros (z : Value) (n : Nat) : Array Value := (List.replicate n z).toArray
theorem madeCells_zeros (z : Value) (n : Nat) : madeCells #[z] n = zeros z n := by
  unfold zeros; rw [← toList_madeCells_one]

theorem ri {k : IntKind} {a b : Int} (h : a = b) : Ending.returned (.int k a) = .returned (.int k b) := by rw [h]
theorem rb {a b : Bool} (h : a = b) : Ending.returned (.bool a) = .returned (.bool b) := by rw [h]
end Go.Ss
