/- ClaimAlone, the walk. -/
import Derived.Test.YtaddjigmdeejlaaLawNinea
namespace Go.Proofs.Ytaddjigmdeejlaa
open Go.RowKit Go.Ss

theorem hidx_pack {i g : Int} (i0 : 0 ≤ i) (i1 : i ≤ 4294967295) (g0 : 0 ≤ g) (g1 : g ≤ 1073741823) : hidx (packW i g) = i := by unfold hidx packW; omega
theorem hgen_pack {i g : Int} (i0 : 0 ≤ i) (i1 : i ≤ 4294967295) (g0 : 0 ≤ g) (g1 : g ≤ 1073741823) : hgen (packW i g) = g := by unfold hgen packW; omega
theorem sState_taken (g : Int) : sState (sMeta 1 g) = 1 := by unfold sState sMeta; omega
theorem sGen_taken {g : Int} (g1 : g ≤ 1073741823) : sGen (sMeta 1 g) = g := by unfold sGen sMeta; split <;> omega
theorem getI_ws {l : List Int} (h : Ws l) (i : Int) : 0 ≤ getI l i ∧ getI l i < 18446744073709551616 := h.getI i

set_option maxRecDepth 100000 in
theorem claimAlone_out (c : Cfg) (a : Option Addr) (n cap : Nat) (f : Int) (w : World) (h : ¬ c.R ∨ (c.R ∧ (n : Int) ≠ c.len) ∨ (c.R ∧ (n : Int) = c.len ∧ (400 : Int) < n)) :
    Calls Try.prog 3 #[.agg #[.int .i64 c.threads, .int .i64 c.slots, .int .i64 c.cap, .int .i64 c.height, .int .i64 c.keep, .int .i64 c.every, .int .i64 c.last], .slice a n cap, .int .i64 f] w fun e w' => e = .returned (.bool true) ∧ Fr [] w w' := by
  have H := Lib.hid h; clear h
  obtain ⟨W0, hW0⟩ : ∃ W, w.alloc (.cells #[.int .i64 c.threads, .int .i64 c.slots, .int .i64 c.cap, .int .i64 c.height, .int .i64 c.keep, .int .i64 c.every, .int .i64 c.last] 23) = W := ⟨_, rfl⟩
  have hB0 : Blk W0 w.heap.size #[.int .i64 c.threads, .int .i64 c.slots, .int .i64 c.cap, .int .i64 c.height, .int .i64 c.keep, .int .i64 c.every, .int .i64 c.last] 23 := hW0 ▸ Blk.new _ _ _
  have F0 : Fr [] w W0 := hW0 ▸ (Fr.refl _ _).alloc _
  have hBc0 : ∀ w', Fr [] W0 w' → ∀ i, w'.cell? ⟨w.heap.size, i, none⟩ = _ := fun w' h i => (hB0.fr0 h).cell i
  have hBr0 := Fr.refl [] W0
  go_enter Try.func3, Try.ntmps3
  go_wp2_with (first | (go_at_call 22; refine (lawOf_bad c a n cap _ H.out).mono ?_; rintro e w1 ⟨rfl, hf⟩; replace hf : Fr [] W0 w1 := Fr.trans (by (first | assumption | exact Fr.refl _ _ | exact (Fr.refl _ _).drew | exact Fr.drew (by assumption))) hf) | (go_at_call 23; refine (claimNew_any f _).mono ?_; rintro e w3 ⟨ba, rfl, hf3, q4, ha⟩) | (go_at_call 24; refine (alive9 _).mono ?_; rintro e w4 ⟨rfl, hf4⟩))
  go_ret
  refine ⟨rfl, ?_⟩
  exact F0.trans ((((hf.alloc _).alloc _).trans hf3).trans hf4)

def chg (j k : Nat) : Int := if j < k then 1 else 0
theorem chg_self (j : Nat) : chg j j = 0 := if_neg (by omega)
theorem chg_next (j : Nat) : chg j (j + 1) = 1 := if_pos (by omega)
theorem chg_ne {j k : Nat} (h : k ≠ j) : chg j (k + 1) = chg j k := by unfold chg; by_cases hh : j < k <;> simp [hh] <;> omega
theorem chg_end {j k : Nat} (h : j < k) : chg j k = 1 := if_pos h
theorem chg_bd (j k : Nat) : 0 ≤ chg j k ∧ chg j k ≤ 1 := by unfold chg; split <;> omega
def LoopR (W : World) (ba bm bb bc : Nat) (s : Cl × Mm) (n : Nat) (i : Value) (wr : World) : Prop :=
  ∃ k : Nat, k ≤ n ∧ i = .int .i64 k ∧ MemAt wr bm bb bc (Cl.runs k s).2 ∧ ClAt wr ba (Cl.runs k s).1 ∧ (Cl.runs k s).1.Ok (Cl.runs k s).2.c.cap ∧ Fr [ba, bb, bc] W wr
end Go.Proofs.Ytaddjigmdeejlaa
