/- Blocks of a call's own that are written in a region that draws its order; results in cells. -/
import Derived.Test.YtaddjigmdeejlaaAid
namespace Go.Proofs.Ytaddjigmdeejlaa
open Go.RowKit Go.Ss

theorem name_world {P : Program} {c : Code} {Q : Exit → Act → World → Prop} {a : Act} {w : World} (h : ∀ W, w = W → Code.wp P c Q a W) : Code.wp P c Q a w := h _ rfl
theorem name_post {P : Program} {fn : Func} {R : Ending → World → Prop} {a : Act} {e : Exit} {w : World} (h : ∀ W, w = W → bodyPost P fn R e a W) : bodyPost P fn R e a w := h _ rfl

/-- what was there stays, but for the blocks of L, which can be written -/
structure Ow (L : List Nat) (W w : World) : Prop where
  fr : Fr L W w
  fz : ∀ b ∈ L, ∀ i, w.frozen? ⟨b, i, none⟩ = false
theorem Ow.drew {L : List Nat} {W w : World} (h : Ow L W w) : Ow L W w.drew := ⟨h.fr.drew, h.fz⟩
theorem Ow.set {L : List Nat} {W w : World} {b i : Nat} (h : Ow L W w) (hb : b ∈ L) (u : Value) : Ow L W (w.setCell ⟨b, i, none⟩ u) :=
  ⟨h.fr.setM hb u, fun x hx j => (World.frozen?_setCell _ _ _ _).trans (h.fz x hx j)⟩
theorem Ow.alloc {L : List Nat} {W w : World} (h : Ow L W w) (hl : ∀ b ∈ L, b < w.heap.size) (o : Obj) : Ow L W (w.alloc o) :=
  ⟨h.fr.alloc o, fun x hx j => (World.frozen?_of_block (w := w) (Below.heap_alloc _ _ _ (hl x hx))).trans (h.fz x hx j)⟩
theorem Ow.call {L : List Nat} {W w w' : World} (h : Ow L W w) (f : Fr [] w w') (hl : ∀ b ∈ L, b < w.heap.size) : Ow L W w' :=
  ⟨h.fr.trans f.nil, fun x hx j => (World.frozen?_of_block (w := w) (f.block _ (hl x hx) (by simp))).trans (h.fz x hx j)⟩
theorem Blk.ow {L : List Nat} {W w : World} {b T : Nat} {vs : Array Value} (h : Blk W b vs T) (o : Ow L W w) (hn : b ∉ L) : Blk w b vs T := h.fr o.fr hn
theorem set1 {w : World} {b T : Nat} {x0 : Value} (h : Blk w b #[x0] T) (y0 : Value) : Blk (w.setCell ⟨b, 0, none⟩ y0) b #[y0] T := by
  have h1 := (h.setCell 0 y0)
  simp only [List.setIfInBounds_toArray, List.set_cons_succ, List.set_cons_zero] at h1
  exact h1
theorem set3 {w : World} {b T : Nat} {x0 x1 x2 : Value} (h : Blk w b #[x0, x1, x2] T) (y0 y1 y2 : Value) : Blk (((w.setCell ⟨b, 0, none⟩ y0).setCell ⟨b, 1, none⟩ y1).setCell ⟨b, 2, none⟩ y2) b #[y0, y1, y2] T := by
  have h1 := (((h.setCell 0 y0).setCell 1 y1).setCell 2 y2)
  simp only [List.setIfInBounds_toArray, List.set_cons_succ, List.set_cons_zero] at h1
  exact h1
theorem set6 {w : World} {b T : Nat} {x0 x1 x2 x3 x4 x5 : Value} (h : Blk w b #[x0, x1, x2, x3, x4, x5] T) (y0 y1 y2 y3 y4 y5 : Value) : Blk ((((((w.setCell ⟨b, 0, none⟩ y0).setCell ⟨b, 1, none⟩ y1).setCell ⟨b, 2, none⟩ y2).setCell ⟨b, 3, none⟩ y3).setCell ⟨b, 4, none⟩ y4).setCell ⟨b, 5, none⟩ y5) b #[y0, y1, y2, y3, y4, y5] T := by
  have h1 := ((((((h.setCell 0 y0).setCell 1 y1).setCell 2 y2).setCell 3 y3).setCell 4 y4).setCell 5 y5)
  simp only [List.setIfInBounds_toArray, List.set_cons_succ, List.set_cons_zero] at h1
  exact h1
theorem set8 {w : World} {b T : Nat} {x0 x1 x2 x3 x4 x5 x6 x7 : Value} (h : Blk w b #[x0, x1, x2, x3, x4, x5, x6, x7] T) (y0 y1 y2 y3 y4 y5 y6 y7 : Value) : Blk ((((((((w.setCell ⟨b, 0, none⟩ y0).setCell ⟨b, 1, none⟩ y1).setCell ⟨b, 2, none⟩ y2).setCell ⟨b, 3, none⟩ y3).setCell ⟨b, 4, none⟩ y4).setCell ⟨b, 5, none⟩ y5).setCell ⟨b, 6, none⟩ y6).setCell ⟨b, 7, none⟩ y7) b #[y0, y1, y2, y3, y4, y5, y6, y7] T := by
  have h1 := ((((((((h.setCell 0 y0).setCell 1 y1).setCell 2 y2).setCell 3 y3).setCell 4 y4).setCell 5 y5).setCell 6 y6).setCell 7 y7)
  simp only [List.setIfInBounds_toArray, List.set_cons_succ, List.set_cons_zero] at h1
  exact h1
theorem set6at2 {w : World} {b T : Nat} {x0 x1 x2 x3 x4 x5 x6 x7 : Value} (h : Blk w b #[x0, x1, x2, x3, x4, x5, x6, x7] T) (y0 y1 y2 y3 y4 y5 : Value) : Blk ((((((w.setCell ⟨b, 2, none⟩ y0).setCell ⟨b, 3, none⟩ y1).setCell ⟨b, 4, none⟩ y2).setCell ⟨b, 5, none⟩ y3).setCell ⟨b, 6, none⟩ y4).setCell ⟨b, 7, none⟩ y5) b #[x0, x1, y0, y1, y2, y3, y4, y5] T := by
  have h1 := ((((((h.setCell 2 y0).setCell 3 y1).setCell 4 y2).setCell 5 y3).setCell 6 y4).setCell 7 y5)
  simp only [List.setIfInBounds_toArray, List.set_cons_succ, List.set_cons_zero] at h1
  exact h1
theorem set15 {w : World} {b T : Nat} {x0 x1 x2 x3 x4 x5 x6 x7 x8 x9 x10 x11 x12 x13 x14 : Value} (h : Blk w b #[x0, x1, x2, x3, x4, x5, x6, x7, x8, x9, x10, x11, x12, x13, x14] T) (y0 y1 y2 y3 y4 y5 y6 y7 y8 y9 y10 y11 y12 y13 y14 : Value) : Blk (((((((((((((((w.setCell ⟨b, 0, none⟩ y0).setCell ⟨b, 1, none⟩ y1).setCell ⟨b, 2, none⟩ y2).setCell ⟨b, 3, none⟩ y3).setCell ⟨b, 4, none⟩ y4).setCell ⟨b, 5, none⟩ y5).setCell ⟨b, 6, none⟩ y6).setCell ⟨b, 7, none⟩ y7).setCell ⟨b, 8, none⟩ y8).setCell ⟨b, 9, none⟩ y9).setCell ⟨b, 10, none⟩ y10).setCell ⟨b, 11, none⟩ y11).setCell ⟨b, 12, none⟩ y12).setCell ⟨b, 13, none⟩ y13).setCell ⟨b, 14, none⟩ y14) b #[y0, y1, y2, y3, y4, y5, y6, y7, y8, y9, y10, y11, y12, y13, y14] T := by
  have h1 := (((((((((((((((h.setCell 0 y0).setCell 1 y1).setCell 2 y2).setCell 3 y3).setCell 4 y4).setCell 5 y5).setCell 6 y6).setCell 7 y7).setCell 8 y8).setCell 9 y9).setCell 10 y10).setCell 11 y11).setCell 12 y12).setCell 13 y13).setCell 14 y14)
  simp only [List.setIfInBounds_toArray, List.set_cons_succ, List.set_cons_zero] at h1
  exact h1
end Go.Proofs.Ytaddjigmdeejlaa
