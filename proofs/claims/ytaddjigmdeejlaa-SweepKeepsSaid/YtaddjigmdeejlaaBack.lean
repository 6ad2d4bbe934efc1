/- Giving a slot back. -/
import Derived.Test.YtaddjigmdeejlaaClaimb
namespace Go.Proofs.Ytaddjigmdeejlaa
open Go.RowKit Go.Ss

def Mm.back (M : Mm) (h : Int) : Mm := M.release (hidx h) (sAfter (hgen h) M.c.last)

set_option maxRecDepth 100000 in
theorem back_any (bm bb bc : Nat) (M : Mm) (h : Int) (w : World) (hm : MemAt w bm bb bc M) (h0 : 0 ≤ h) (h1 : h < 18446744073709551616) :
    Calls Try.prog 103 #[.pointer (some ⟨bm, 0, none⟩), .int .u64 h] w fun e w' => e = .returned (.tuple #[]) ∧ Fr [bb, bc] w w' ∧ MemAt w' bm bb bc (Mm.back M h) := by
  have l0 := hm.ok.r.l0
  have l1 := hm.ok.r.l1
  have g0 := (hgen_bd h).1
  have g1 := (hgen_bd h).2
  have ha := sAfter_bd (hgen h) M.c.last g1
  have a0 := ha.1
  have a1 : sAfter (hgen h) M.c.last < 18446744073709551616 := by have := ha.2; omega
  clear ha
  have hmc : ∀ w', Fr [bb, bc] w w' → ∀ i, w'.cell? ⟨bm, i, none⟩ = _ := fun w' h i => (hm.mem.fr h (by simp [hm.n1, hm.n2])).cell i
  go_enter Try.func103, Try.ntmps103
  go_wp2_with fail
  go_region_held3 (fun w' => Fr [bb, bc] w w') (repeat (first | assumption | exact Fr.refl _ _ | refine Fr.drew ?_ | refine Fr.set1 ?_ _ | refine Fr.alloc ?_ _ | refine Fr.drewN ?_ _ | exact Fr.nil (by assumption))) (first | (go_at_call 32; refine (index_any h _ h0 h1).mono ?_; rintro e w1 ⟨rfl, hf⟩; replace hf : Fr [] w w1 := Fr.trans (by (first | assumption | exact Fr.refl _ _ | exact (Fr.refl _ _).drew | exact Fr.drew (by assumption))) hf) | (go_at_call 35; refine (gen_any h _ h0 h1).mono ?_; rintro e w1 ⟨rfl, hf⟩; replace hf : Fr [] w w1 := Fr.trans (by (first | assumption | exact Fr.refl _ _ | exact (Fr.refl _ _).drew | exact Fr.drew (by assumption))) hf) | (go_at_call 115; refine (config_any M.c _).mono ?_; rintro e w1 ⟨rfl, hf⟩; replace hf : Fr [] w w1 := Fr.trans (by (first | assumption | exact Fr.refl _ _ | exact (Fr.refl _ _).drew | exact Fr.drew (by assumption))) hf) | (go_at_call 151; refine (after_any (hgen h) M.c.last _ g0 g1 l0 l1).mono ?_; rintro e w1 ⟨rfl, hf⟩; replace hf : Fr [] w w1 := Fr.trans (by (first | assumption | exact Fr.refl _ _ | exact (Fr.refl _ _).drew | exact Fr.drew (by assumption))) hf) | (go_at_call 136; refine (release_any bm bb bc M (hidx h) (sAfter (hgen h) M.c.last) _ (hm.fr0 (by (first | assumption | exact Fr.refl _ _ | exact (Fr.refl _ _).drew | exact Fr.drew (by assumption)))) a0 a1).mono ?_; rintro e w1 ⟨rfl, hf1, hm1⟩; replace hf1 : Fr [bb, bc] w w1 := Fr.trans (Fr.nil (by (first | assumption | exact Fr.refl _ _ | exact (Fr.refl _ _).drew | exact Fr.drew (by assumption)))) hf1))
  go_wp2_with fail
  (first | go_end0 | (refine bodyPost_ret (results_none rfl _ _ _) rfl ?_))
  exact ⟨rfl, hf1, hm1⟩
end Go.Proofs.Ytaddjigmdeejlaa
