/- Plain definitions: configurations, where what stands, banks and what an access makes of one. No program in sight. -/
import Derived.Test.YtaddjigmdeejlaaPure
import Derived.Test.YtaddjigmdeejlaaBase
namespace Go.Ss
open Go.RowKit

theorem b_or_join (x y : Int) (i : Nat) (h0 : 0 ≤ x) (h1 : x < 18446744073709551616) (hy0 : 0 ≤ y) (hy1 : y < 18446744073709551616) (hx : x.toNat % 2 ^ i = 0) (hy : y.toNat < 2 ^ i) :
    bits .or .u64 x y = x + y := by
  rw [u64_or x y h0 h1 hy0 hy1, nat_join i _ _ hx hy]; omega

structure Cfg where
  threads : Int
  slots : Int
  cap : Int
  height : Int
  keep : Int
  every : Int
  last : Int

structure Cfg.R (c : Cfg) : Prop where
  t0 : 1 ≤ c.threads
  t1 : c.threads ≤ 8
  s0 : 1 ≤ c.slots
  s1 : c.slots ≤ 8
  c0 : 1 ≤ c.cap
  c1 : c.cap ≤ 64
  h0 : 1 ≤ c.height
  h1 : c.height ≤ 6
  k0 : 1 ≤ c.keep
  k1 : c.keep ≤ 64
  e0 : 1 ≤ c.every
  e1 : c.every ≤ 64
  l0 : 0 ≤ c.last
  l1 : c.last ≤ 1073741823

def Cfg.rB (c : Cfg) : Bool :=
  decide (1 ≤ c.threads) && decide (c.threads ≤ 8) && decide (1 ≤ c.slots) && decide (c.slots ≤ 8) && decide (1 ≤ c.cap) && decide (c.cap ≤ 64) &&
  decide (1 ≤ c.height) && decide (c.height ≤ 6) && decide (1 ≤ c.keep) && decide (c.keep ≤ 64) && decide (1 ≤ c.every) && decide (c.every ≤ 64) &&
  decide (0 ≤ c.last) && decide (c.last ≤ 1073741823)

theorem Cfg.rB_iff (c : Cfg) : c.rB = true ↔ c.R := by
  unfold Cfg.rB
  simp only [Bool.and_eq_true, decide_eq_true_eq]
  constructor
  · rintro ⟨⟨⟨⟨⟨⟨⟨⟨⟨⟨⟨⟨⟨a, b⟩, c⟩, d⟩, e⟩, f⟩, g⟩, h⟩, i⟩, j⟩, k⟩, l⟩, m⟩, n⟩
    exact ⟨a, b, c, d, e, f, g, h, i, j, k, l, m, n⟩
  · rintro ⟨a, b, c, d, e, f, g, h, i, j, k, l, m, n⟩
    exact ⟨⟨⟨⟨⟨⟨⟨⟨⟨⟨⟨⟨⟨a, b⟩, c⟩, d⟩, e⟩, f⟩, g⟩, h⟩, i⟩, j⟩, k⟩, l⟩, m⟩, n⟩

/-- all fields are ints of 64 bits -/
structure Cfg.W (c : Cfg) : Prop where
  t0 : -9223372036854775808 ≤ c.threads
  t1 : c.threads ≤ 9223372036854775807
  s0 : -9223372036854775808 ≤ c.slots
  s1 : c.slots ≤ 9223372036854775807
  c0 : -9223372036854775808 ≤ c.cap
  c1 : c.cap ≤ 9223372036854775807
  h0 : -9223372036854775808 ≤ c.height
  h1 : c.height ≤ 9223372036854775807
  k0 : -9223372036854775808 ≤ c.keep
  k1 : c.keep ≤ 9223372036854775807
  e0 : -9223372036854775808 ≤ c.every
  e1 : c.every ≤ 9223372036854775807
  l0 : -9223372036854775808 ≤ c.last
  l1 : c.last ≤ 9223372036854775807

def Cfg.first (c : Cfg) : Int := 1 + c.threads * c.slots
def Cfg.fields (c : Cfg) : Int := 6 + c.height
def Cfg.len (c : Cfg) : Int := c.first + (c.cap + 1) * c.fields
def Cfg.cell (c : Cfg) (i f : Int) : Int := if 0 ≤ i ∧ i ≤ c.cap ∧ 0 ≤ f ∧ f < c.fields then c.first + i * c.fields + f else -1
def Cfg.resv (c : Cfg) (t s : Int) : Int := if 0 ≤ t ∧ t < c.threads ∧ 0 ≤ s ∧ s < c.slots then 1 + t * c.slots + s else -1

theorem mul_bd {a b A B : Int} (a0 : 0 ≤ a) (a1 : a ≤ A) (b0 : 0 ≤ b) (b1 : b ≤ B) : 0 ≤ a * b ∧ a * b ≤ A * B :=
  ⟨Int.mul_nonneg a0 b0, Int.mul_le_mul a1 b1 b0 (Int.le_trans a0 a1)⟩

theorem Cfg.R.first_bd {c : Cfg} (h : c.R) : 2 ≤ c.first ∧ c.first ≤ 65 := by
  have h1 := mul_bd (a := c.threads - 1) (b := c.slots - 1) (A := 7) (B := 7) (by have := h.t0; omega) (by have := h.t1; omega) (by have := h.s0; omega) (by have := h.s1; omega)
  have h2 : (c.threads - 1) * (c.slots - 1) = c.threads * c.slots - c.threads - c.slots + 1 := by
    rw [Int.sub_mul, Int.mul_sub, Int.mul_sub]; omega
  have := h.t0; have := h.t1; have := h.s0; have := h.s1
  unfold Cfg.first; omega
theorem Cfg.R.fields_bd {c : Cfg} (h : c.R) : 7 ≤ c.fields ∧ c.fields ≤ 12 := by
  have := h.h0; have := h.h1; unfold Cfg.fields; omega
theorem Cfg.R.len_bd {c : Cfg} (h : c.R) : 16 ≤ c.len ∧ c.len ≤ 845 := by
  have h1 := h.first_bd; have h2 := h.fields_bd
  have h3 := mul_bd (a := c.cap + 1) (b := c.fields) (A := 65) (B := 12) (by have := h.c0; omega) (by have := h.c1; omega) (by omega) (by omega)
  have h4 := mul_bd (a := c.cap - 1) (b := c.fields) (A := 63) (B := 12) (by have := h.c0; omega) (by have := h.c1; omega) (by omega) (by omega)
  have h5 : (c.cap - 1) * c.fields = (c.cap + 1) * c.fields - 2 * c.fields := by rw [Int.sub_mul, Int.add_mul]; omega
  unfold Cfg.len; omega
theorem Cfg.R.cell_bd {c : Cfg} (h : c.R) (i f : Int) : -1 ≤ c.cell i f ∧ c.cell i f < c.len := by
  have h1 := h.first_bd; have h2 := h.fields_bd; have h6 := h.len_bd
  unfold Cfg.cell
  split
  · rename_i hc
    have h3 := mul_bd (a := i) (b := c.fields) (A := c.cap) (B := c.fields) (by omega) (by omega) (by omega) (by omega)
    have h5 : (c.cap + 1) * c.fields = c.cap * c.fields + c.fields := by rw [Int.add_mul]; omega
    unfold Cfg.len; omega
  · omega
theorem Cfg.R.resv_bd {c : Cfg} (h : c.R) (t s : Int) : -1 ≤ c.resv t s ∧ c.resv t s < c.first := by
  have h1 := h.first_bd
  unfold Cfg.resv
  split
  · rename_i hc
    have h3 := mul_bd (a := t) (b := c.slots) (A := c.threads - 1) (B := c.slots) (by omega) (by omega) (by omega) (by omega)
    have h5 : (c.threads - 1) * c.slots = c.threads * c.slots - c.slots := by rw [Int.sub_mul]; omega
    unfold Cfg.first; omega
  · omega

/-! ### Banks -/
structure Acc where
  kind : Int
  cell : Int
  via : Int
  old : Int
  new : Int
  done : Bool

def Acc.zero : Acc := ⟨0, 0, 0, 0, 0, false⟩

structure Bk where
  cells : List Int
  count : Int
  last : Acc

def getI (l : List Int) (i : Int) : Int := l.getD i.toNat 0
def setI (l : List Int) (i v : Int) : List Int := l.set i.toNat v
def Bk.has (B : Bk) (i : Int) : Bool := decide (0 ≤ i) && decide (i < (B.cells.length : Int))

def Bk.access (B : Bk) (kind cell via : Int) (f : Int → Int × Bool) : Bk × Acc :=
  if B.has cell then
    (⟨setI B.cells cell (f (getI B.cells cell)).1, wrap64 (B.count + 1), ⟨kind, cell, via, getI B.cells cell, (f (getI B.cells cell)).1, (f (getI B.cells cell)).2⟩⟩,
     ⟨kind, cell, via, getI B.cells cell, (f (getI B.cells cell)).1, (f (getI B.cells cell)).2⟩)
  else (⟨B.cells, wrap64 (B.count + 1), ⟨kind, cell, via, 0, 0, false⟩⟩, ⟨kind, cell, via, 0, 0, false⟩)

def fLoad (x : Int) : Int × Bool := (x, true)
def fStore (v : Int) (_ : Int) : Int × Bool := (v, true)
def fSwap (old v : Int) (x : Int) : Int × Bool := if x = old then (v, true) else (x, false)
def fAdd (by_ : Int) (x : Int) : Int × Bool := ((x + by_) % 18446744073709551616, true)

def Bk.load (B : Bk) (cell via : Int) : Bk × Acc := B.access 1 cell via fLoad
def Bk.store (B : Bk) (cell via v : Int) : Bk × Acc := B.access 2 cell via (fStore v)
def Bk.swap (B : Bk) (cell via old v : Int) : Bk × Acc := B.access 3 cell via (fSwap old v)
def Bk.add (B : Bk) (cell via by_ : Int) : Bk × Acc := B.access 4 cell via (fAdd by_)

/-- the words are words -/
def Ws (l : List Int) : Prop := ∀ x ∈ l, 0 ≤ x ∧ x < 18446744073709551616

theorem Ws.getI {l : List Int} (h : Ws l) (i : Int) : 0 ≤ getI l i ∧ getI l i < 18446744073709551616 := by
  unfold Ss.getI
  rcases Nat.lt_or_ge i.toNat l.length with hi | hi
  · rw [List.getD_eq_getElem?_getD, List.getElem?_eq_getElem hi]; exact h _ (List.getElem_mem hi)
  · rw [List.getD_eq_getElem?_getD, List.getElem?_eq_none hi]; simp
theorem Ws.setI {l : List Int} (h : Ws l) (i v : Int) (h0 : 0 ≤ v) (h1 : v < 18446744073709551616) : Ws (setI l i v) := by
  intro x hx
  rcases List.mem_or_eq_of_mem_set hx with hx | rfl
  · exact h _ hx
  · exact ⟨h0, h1⟩
theorem setI_length (l : List Int) (i v : Int) : (setI l i v).length = l.length := by unfold setI; simp

theorem Bk.access_length (B : Bk) (k c v : Int) (f : Int → Int × Bool) : (B.access k c v f).1.cells.length = B.cells.length := by
  unfold Bk.access; split <;> simp [setI_length]
theorem Bk.access_ws (B : Bk) (k c v : Int) (f : Int → Int × Bool) (h : Ws B.cells) (hf : ∀ x, 0 ≤ x → x < 18446744073709551616 → 0 ≤ (f x).1 ∧ (f x).1 < 18446744073709551616) :
    Ws (B.access k c v f).1.cells := by
  unfold Bk.access; split
  · have h1 := h.getI c
    have h2 := hf _ h1.1 h1.2
    exact h.setI _ _ h2.1 h2.2
  · exact h

/-- a world's words: what stands in the place of a *mem.Mem -/
structure Mm where
  c : Cfg
  b : Bk

def Mm.cellOf (M : Mm) (h f : Int) : Int := M.c.cell (hidx h) f
def Mm.load (M : Mm) (h f : Int) : Mm × Int := let r := M.b.load (M.cellOf h f) (plain h); (⟨M.c, r.1⟩, r.2.old)
def Mm.store (M : Mm) (h f v : Int) : Mm := ⟨M.c, (M.b.store (M.cellOf h f) (plain h) v).1⟩
def Mm.swap (M : Mm) (h f old v : Int) : Mm × Bool := let r := M.b.swap (M.cellOf h f) (plain h) old v; (⟨M.c, r.1⟩, r.2.done)
def Mm.add (M : Mm) (h f by_ : Int) : Mm × Int := let r := M.b.add (M.cellOf h f) (plain h) by_; (⟨M.c, r.1⟩, r.2.old)
def Mm.clock (M : Mm) : Mm × Int := let r := M.b.load 0 0; (⟨M.c, r.1⟩, r.2.old)
def Mm.tick (M : Mm) : Mm × Int := let r := M.b.add 0 0 1; (⟨M.c, r.1⟩, r.2.old)
def Mm.reserve (M : Mm) (t s era : Int) : Mm := ⟨M.c, (M.b.store (M.c.resv t s) 0 era).1⟩
def Mm.reserved (M : Mm) (t s : Int) : Mm × Int := let r := M.b.load (M.c.resv t s) 0; (⟨M.c, r.1⟩, r.2.old)
def Mm.meta_ (M : Mm) (i : Int) : Mm × Int := let r := M.b.load (M.c.cell i 0) 0; (⟨M.c, r.1⟩, r.2.old)
def Mm.take (M : Mm) (i old v : Int) : Mm × Bool := let r := M.b.swap (M.c.cell i 0) 0 old v; (⟨M.c, r.1⟩, r.2.done)
def Mm.release (M : Mm) (i v : Int) : Mm := ⟨M.c, (M.b.store (M.c.cell i 0) 0 v).1⟩

/-- the shape of a world's words -/
structure Mm.Ok (M : Mm) : Prop where
  r : M.c.R
  len : (M.b.cells.length : Int) = M.c.len
  ws : Ws M.b.cells

theorem Mm.Ok.access {M : Mm} (h : M.Ok) (k c v : Int) (f : Int → Int × Bool) (hf : ∀ x, 0 ≤ x → x < 18446744073709551616 → 0 ≤ (f x).1 ∧ (f x).1 < 18446744073709551616) :
    Mm.Ok ⟨M.c, (M.b.access k c v f).1⟩ :=
  ⟨h.r, by rw [Bk.access_length]; exact h.len, Bk.access_ws _ _ _ _ _ h.ws hf⟩
theorem Mm.Ok.load {M : Mm} (h : M.Ok) (c v : Int) : Mm.Ok ⟨M.c, (M.b.load c v).1⟩ := h.access _ _ _ _ (fun x h0 h1 => ⟨h0, h1⟩)
theorem Mm.Ok.store {M : Mm} (h : M.Ok) (c v x : Int) (h0 : 0 ≤ x) (h1 : x < 18446744073709551616) : Mm.Ok ⟨M.c, (M.b.store c v x).1⟩ := h.access _ _ _ _ (fun _ _ _ => ⟨h0, h1⟩)
theorem Mm.Ok.swap {M : Mm} (h : M.Ok) (c v o x : Int) (h0 : 0 ≤ x) (h1 : x < 18446744073709551616) : Mm.Ok ⟨M.c, (M.b.swap c v o x).1⟩ :=
  h.access _ _ _ _ (fun y g0 g1 => by unfold fSwap; split <;> exact ⟨by assumption, by assumption⟩)
theorem Mm.Ok.add {M : Mm} (h : M.Ok) (c v x : Int) : Mm.Ok ⟨M.c, (M.b.add c v x).1⟩ := h.access _ _ _ _ (fun y _ _ => by unfold fAdd; omega)

/-- what an access tells is a word -/
theorem Bk.access_old (B : Bk) (k c v : Int) (f : Int → Int × Bool) (h : Ws B.cells) : 0 ≤ (B.access k c v f).2.old ∧ (B.access k c v f).2.old < 18446744073709551616 := by
  unfold Bk.access; split
  · exact h.getI c
  · exact ⟨Int.le_refl _, by show (0 : Int) < _; omega⟩
end Go.Ss
