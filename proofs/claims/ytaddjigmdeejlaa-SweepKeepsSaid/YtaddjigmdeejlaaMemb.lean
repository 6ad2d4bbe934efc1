/- Contracts of package mem, the calls that are alike. -/
import Derived.Test.YtaddjigmdeejlaaMem
namespace Go.Proofs.Ytaddjigmdeejlaa
open Go.RowKit Go.Ss

set_option maxRecDepth 100000 in
theorem mload_any (bm bb bc : Nat) (M : Mm) (h f : Int) (w : World) (hm : MemAt w bm bb bc M) (k0 : 0 ≤ h) (k1 : h < 18446744073709551616) :
    Calls Try.prog 53 #[.pointer (some ⟨bm, 0, none⟩), .int .u64 h, .int .i64 f] w fun e w' => e = .returned (.int .u64 (M.load h f).2) ∧ Fr [bb, bc] w w' ∧ MemAt w' bm bb bc (M.load h f).1 := by
  have hmc : ∀ w', Fr [bb, bc] w w' → ∀ i, w'.cell? ⟨bm, i, none⟩ = _ := fun w' h i => (hm.mem.fr h (by simp [hm.n1, hm.n2])).cell i
  have hc := hm.ok.r
  go_enter Try.func53, Try.ntmps53
  go_wp2_with fail
  go_region_held3 (fun w' => Fr [bb, bc] w w') (repeat (first | assumption | exact Fr.refl _ _ | refine Fr.drew ?_ | refine Fr.set1 ?_ _ | refine Fr.alloc ?_ _ | refine Fr.drewN ?_ _ | exact Fr.nil (by assumption))) (first | (go_at_call 125; refine (fieldc_any M.c hc h f _ k0 k1).mono ?_; rintro e w1 ⟨rfl, hf⟩; replace hf : Fr [] w w1 := Fr.trans (by (first | assumption | exact Fr.refl _ _ | exact (Fr.refl _ _).drew | exact Fr.drew (by assumption))) hf) | (go_at_call 66; refine (plain_any h _ k0 k1).mono ?_; rintro e w1 ⟨rfl, rfl⟩) | (go_at_call 107; refine (bload_any bb bc M.b _ _ _ (hm.bank.fr0 (by (first | assumption | exact Fr.refl _ _ | exact (Fr.refl _ _).drew | exact Fr.drew (by assumption))))).mono ?_; rintro e w1 ⟨rfl, hf, hb1⟩; replace hf : Fr [bb, bc] w w1 := Fr.trans (Fr.nil (by (first | assumption | exact Fr.refl _ _ | exact (Fr.refl _ _).drew | exact Fr.drew (by assumption)))) hf))
  go_wp2_with fail
  go_ret
  exact ⟨rfl, hf, hm.next hf hb1 (hm.ok.load _ _)⟩

set_option maxRecDepth 100000 in
theorem mstore_any (bm bb bc : Nat) (M : Mm) (h f v : Int) (w : World) (hm : MemAt w bm bb bc M) (k0 : 0 ≤ h) (k1 : h < 18446744073709551616) (v0 : 0 ≤ v) (v1 : v < 18446744073709551616) :
    Calls Try.prog 75 #[.pointer (some ⟨bm, 0, none⟩), .int .u64 h, .int .i64 f, .int .u64 v] w fun e w' => e = .returned (.tuple #[]) ∧ Fr [bb, bc] w w' ∧ MemAt w' bm bb bc (M.store h f v) := by
  have hmc : ∀ w', Fr [bb, bc] w w' → ∀ i, w'.cell? ⟨bm, i, none⟩ = _ := fun w' h i => (hm.mem.fr h (by simp [hm.n1, hm.n2])).cell i
  have hc := hm.ok.r
  go_enter Try.func75, Try.ntmps75
  go_wp2_with fail
  go_region_held3 (fun w' => Fr [bb, bc] w w') (repeat (first | assumption | exact Fr.refl _ _ | refine Fr.drew ?_ | refine Fr.set1 ?_ _ | refine Fr.alloc ?_ _ | refine Fr.drewN ?_ _ | exact Fr.nil (by assumption))) (first | (go_at_call 125; refine (fieldc_any M.c hc h f _ k0 k1).mono ?_; rintro e w1 ⟨rfl, hf⟩; replace hf : Fr [] w w1 := Fr.trans (by (first | assumption | exact Fr.refl _ _ | exact (Fr.refl _ _).drew | exact Fr.drew (by assumption))) hf) | (go_at_call 66; refine (plain_any h _ k0 k1).mono ?_; rintro e w1 ⟨rfl, rfl⟩) | (go_at_call 135; refine (bstore_any bb bc M.b _ _ v _ (hm.bank.fr0 (by (first | assumption | exact Fr.refl _ _ | exact (Fr.refl _ _).drew | exact Fr.drew (by assumption)))) v0 v1).mono ?_; rintro e w1 ⟨rfl, hf, hb1⟩; replace hf : Fr [bb, bc] w w1 := Fr.trans (Fr.nil (by (first | assumption | exact Fr.refl _ _ | exact (Fr.refl _ _).drew | exact Fr.drew (by assumption)))) hf))
  go_wp2_with fail
  go_end0
  exact ⟨rfl, hf, hm.next hf hb1 (hm.ok.store _ _ _ v0 v1)⟩

set_option maxRecDepth 100000 in
theorem mswap_any (bm bb bc : Nat) (M : Mm) (h f old v : Int) (w : World) (hm : MemAt w bm bb bc M) (k0 : 0 ≤ h) (k1 : h < 18446744073709551616) (v0 : 0 ≤ v) (v1 : v < 18446744073709551616) :
    Calls Try.prog 193 #[.pointer (some ⟨bm, 0, none⟩), .int .u64 h, .int .i64 f, .int .u64 old, .int .u64 v] w fun e w' => e = .returned (.bool (M.swap h f old v).2) ∧ Fr [bb, bc] w w' ∧ MemAt w' bm bb bc (M.swap h f old v).1 := by
  have hmc : ∀ w', Fr [bb, bc] w w' → ∀ i, w'.cell? ⟨bm, i, none⟩ = _ := fun w' h i => (hm.mem.fr h (by simp [hm.n1, hm.n2])).cell i
  have hc := hm.ok.r
  go_enter Try.func193, Try.ntmps193
  go_wp2_with fail
  go_region_held3 (fun w' => Fr [bb, bc] w w') (repeat (first | assumption | exact Fr.refl _ _ | refine Fr.drew ?_ | refine Fr.set1 ?_ _ | refine Fr.alloc ?_ _ | refine Fr.drewN ?_ _ | exact Fr.nil (by assumption))) (first | (go_at_call 125; refine (fieldc_any M.c hc h f _ k0 k1).mono ?_; rintro e w1 ⟨rfl, hf⟩; replace hf : Fr [] w w1 := Fr.trans (by (first | assumption | exact Fr.refl _ _ | exact (Fr.refl _ _).drew | exact Fr.drew (by assumption))) hf) | (go_at_call 66; refine (plain_any h _ k0 k1).mono ?_; rintro e w1 ⟨rfl, rfl⟩) | (go_at_call 185; refine (bswap_any bb bc M.b _ _ old v _ (hm.bank.fr0 (by (first | assumption | exact Fr.refl _ _ | exact (Fr.refl _ _).drew | exact Fr.drew (by assumption)))) v0 v1).mono ?_; rintro e w1 ⟨rfl, hf, hb1⟩; replace hf : Fr [bb, bc] w w1 := Fr.trans (Fr.nil (by (first | assumption | exact Fr.refl _ _ | exact (Fr.refl _ _).drew | exact Fr.drew (by assumption)))) hf))
  go_wp2_with fail
  go_ret
  exact ⟨rfl, hf, hm.next hf hb1 (hm.ok.swap _ _ _ _ v0 v1)⟩

set_option maxRecDepth 100000 in
theorem madd_any (bm bb bc : Nat) (M : Mm) (h f v : Int) (w : World) (hm : MemAt w bm bb bc M) (k0 : 0 ≤ h) (k1 : h < 18446744073709551616) (v0 : 0 ≤ v) (v1 : v < 18446744073709551616) :
    Calls Try.prog 169 #[.pointer (some ⟨bm, 0, none⟩), .int .u64 h, .int .i64 f, .int .u64 v] w fun e w' => e = .returned (.int .u64 (M.add h f v).2) ∧ Fr [bb, bc] w w' ∧ MemAt w' bm bb bc (M.add h f v).1 := by
  have hmc : ∀ w', Fr [bb, bc] w w' → ∀ i, w'.cell? ⟨bm, i, none⟩ = _ := fun w' h i => (hm.mem.fr h (by simp [hm.n1, hm.n2])).cell i
  have hc := hm.ok.r
  go_enter Try.func169, Try.ntmps169
  go_wp2_with fail
  go_region_held3 (fun w' => Fr [bb, bc] w w') (repeat (first | assumption | exact Fr.refl _ _ | refine Fr.drew ?_ | refine Fr.set1 ?_ _ | refine Fr.alloc ?_ _ | refine Fr.drewN ?_ _ | exact Fr.nil (by assumption))) (first | (go_at_call 125; refine (fieldc_any M.c hc h f _ k0 k1).mono ?_; rintro e w1 ⟨rfl, hf⟩; replace hf : Fr [] w w1 := Fr.trans (by (first | assumption | exact Fr.refl _ _ | exact (Fr.refl _ _).drew | exact Fr.drew (by assumption))) hf) | (go_at_call 66; refine (plain_any h _ k0 k1).mono ?_; rintro e w1 ⟨rfl, rfl⟩) | (go_at_call 129; refine (badd_any bb bc M.b _ _ v _ (hm.bank.fr0 (by (first | assumption | exact Fr.refl _ _ | exact (Fr.refl _ _).drew | exact Fr.drew (by assumption)))) v0 v1).mono ?_; rintro e w1 ⟨rfl, hf, hb1⟩; replace hf : Fr [bb, bc] w w1 := Fr.trans (Fr.nil (by (first | assumption | exact Fr.refl _ _ | exact (Fr.refl _ _).drew | exact Fr.drew (by assumption)))) hf))
  go_wp2_with fail
  go_ret
  exact ⟨rfl, hf, hm.next hf hb1 (hm.ok.add _ _ _)⟩

set_option maxRecDepth 100000 in
theorem reserved_any (bm bb bc : Nat) (M : Mm) (t s : Int) (w : World) (hm : MemAt w bm bb bc M)  :
    Calls Try.prog 41 #[.pointer (some ⟨bm, 0, none⟩), .int .i64 t, .int .i64 s] w fun e w' => e = .returned (.int .u64 (M.reserved t s).2) ∧ Fr [bb, bc] w w' ∧ MemAt w' bm bb bc (M.reserved t s).1 := by
  have hmc : ∀ w', Fr [bb, bc] w w' → ∀ i, w'.cell? ⟨bm, i, none⟩ = _ := fun w' h i => (hm.mem.fr h (by simp [hm.n1, hm.n2])).cell i
  have hc := hm.ok.r
  go_enter Try.func41, Try.ntmps41
  go_wp2_with fail
  go_region_held3 (fun w' => Fr [bb, bc] w w') (repeat (first | assumption | exact Fr.refl _ _ | refine Fr.drew ?_ | refine Fr.set1 ?_ _ | refine Fr.alloc ?_ _ | refine Fr.drewN ?_ _ | exact Fr.nil (by assumption))) (first | (go_at_call 116; refine (resv_any M.c hc t s _).mono ?_; rintro e w1 ⟨rfl, hf⟩; replace hf : Fr [] w w1 := Fr.trans (by (first | assumption | exact Fr.refl _ _ | exact (Fr.refl _ _).drew | exact Fr.drew (by assumption))) hf) | (go_at_call 107; refine (bload_any bb bc M.b _ _ _ (hm.bank.fr0 (by (first | assumption | exact Fr.refl _ _ | exact (Fr.refl _ _).drew | exact Fr.drew (by assumption))))).mono ?_; rintro e w1 ⟨rfl, hf, hb1⟩; replace hf : Fr [bb, bc] w w1 := Fr.trans (Fr.nil (by (first | assumption | exact Fr.refl _ _ | exact (Fr.refl _ _).drew | exact Fr.drew (by assumption)))) hf))
  go_wp2_with fail
  go_ret
  exact ⟨rfl, hf, hm.next hf hb1 (hm.ok.load _ _)⟩

set_option maxRecDepth 100000 in
theorem meta2_any (bm bb bc : Nat) (M : Mm) (i : Int) (w : World) (hm : MemAt w bm bb bc M)  :
    Calls Try.prog 29 #[.pointer (some ⟨bm, 0, none⟩), .int .i64 i] w fun e w' => e = .returned (.int .u64 (M.meta_ i).2) ∧ Fr [bb, bc] w w' ∧ MemAt w' bm bb bc (M.meta_ i).1 := by
  have hmc : ∀ w', Fr [bb, bc] w w' → ∀ i, w'.cell? ⟨bm, i, none⟩ = _ := fun w' h i => (hm.mem.fr h (by simp [hm.n1, hm.n2])).cell i
  have hc := hm.ok.r
  go_enter Try.func29, Try.ntmps29
  go_wp2_with fail
  go_region_held3 (fun w' => Fr [bb, bc] w w') (repeat (first | assumption | exact Fr.refl _ _ | refine Fr.drew ?_ | refine Fr.set1 ?_ _ | refine Fr.alloc ?_ _ | refine Fr.drewN ?_ _ | exact Fr.nil (by assumption))) (first | (go_at_call 108; refine (metac_any M.c hc i _).mono ?_; rintro e w1 ⟨rfl, hf⟩; replace hf : Fr [] w w1 := Fr.trans (by (first | assumption | exact Fr.refl _ _ | exact (Fr.refl _ _).drew | exact Fr.drew (by assumption))) hf) | (go_at_call 107; refine (bload_any bb bc M.b _ _ _ (hm.bank.fr0 (by (first | assumption | exact Fr.refl _ _ | exact (Fr.refl _ _).drew | exact Fr.drew (by assumption))))).mono ?_; rintro e w1 ⟨rfl, hf, hb1⟩; replace hf : Fr [bb, bc] w w1 := Fr.trans (Fr.nil (by (first | assumption | exact Fr.refl _ _ | exact (Fr.refl _ _).drew | exact Fr.drew (by assumption)))) hf))
  go_wp2_with fail
  go_ret
  exact ⟨rfl, hf, hm.next hf hb1 (hm.ok.load _ _)⟩

set_option maxRecDepth 100000 in
theorem take_any (bm bb bc : Nat) (M : Mm) (i old v : Int) (w : World) (hm : MemAt w bm bb bc M) (v0 : 0 ≤ v) (v1 : v < 18446744073709551616) :
    Calls Try.prog 178 #[.pointer (some ⟨bm, 0, none⟩), .int .i64 i, .int .u64 old, .int .u64 v] w fun e w' => e = .returned (.bool (M.take i old v).2) ∧ Fr [bb, bc] w w' ∧ MemAt w' bm bb bc (M.take i old v).1 := by
  have hmc : ∀ w', Fr [bb, bc] w w' → ∀ i, w'.cell? ⟨bm, i, none⟩ = _ := fun w' h i => (hm.mem.fr h (by simp [hm.n1, hm.n2])).cell i
  have hc := hm.ok.r
  go_enter Try.func178, Try.ntmps178
  go_wp2_with fail
  go_region_held3 (fun w' => Fr [bb, bc] w w') (repeat (first | assumption | exact Fr.refl _ _ | refine Fr.drew ?_ | refine Fr.set1 ?_ _ | refine Fr.alloc ?_ _ | refine Fr.drewN ?_ _ | exact Fr.nil (by assumption))) (first | (go_at_call 108; refine (metac_any M.c hc i _).mono ?_; rintro e w1 ⟨rfl, hf⟩; replace hf : Fr [] w w1 := Fr.trans (by (first | assumption | exact Fr.refl _ _ | exact (Fr.refl _ _).drew | exact Fr.drew (by assumption))) hf) | (go_at_call 185; refine (bswap_any bb bc M.b _ _ old v _ (hm.bank.fr0 (by (first | assumption | exact Fr.refl _ _ | exact (Fr.refl _ _).drew | exact Fr.drew (by assumption)))) v0 v1).mono ?_; rintro e w1 ⟨rfl, hf, hb1⟩; replace hf : Fr [bb, bc] w w1 := Fr.trans (Fr.nil (by (first | assumption | exact Fr.refl _ _ | exact (Fr.refl _ _).drew | exact Fr.drew (by assumption)))) hf))
  go_wp2_with fail
  go_ret
  exact ⟨rfl, hf, hm.next hf hb1 (hm.ok.swap _ _ _ _ v0 v1)⟩

set_option maxRecDepth 100000 in
theorem release_any (bm bb bc : Nat) (M : Mm) (i v : Int) (w : World) (hm : MemAt w bm bb bc M) (v0 : 0 ≤ v) (v1 : v < 18446744073709551616) :
    Calls Try.prog 136 #[.pointer (some ⟨bm, 0, none⟩), .int .i64 i, .int .u64 v] w fun e w' => e = .returned (.tuple #[]) ∧ Fr [bb, bc] w w' ∧ MemAt w' bm bb bc (M.release i v) := by
  have hmc : ∀ w', Fr [bb, bc] w w' → ∀ i, w'.cell? ⟨bm, i, none⟩ = _ := fun w' h i => (hm.mem.fr h (by simp [hm.n1, hm.n2])).cell i
  have hc := hm.ok.r
  go_enter Try.func136, Try.ntmps136
  go_wp2_with fail
  go_region_held3 (fun w' => Fr [bb, bc] w w') (repeat (first | assumption | exact Fr.refl _ _ | refine Fr.drew ?_ | refine Fr.set1 ?_ _ | refine Fr.alloc ?_ _ | refine Fr.drewN ?_ _ | exact Fr.nil (by assumption))) (first | (go_at_call 108; refine (metac_any M.c hc i _).mono ?_; rintro e w1 ⟨rfl, hf⟩; replace hf : Fr [] w w1 := Fr.trans (by (first | assumption | exact Fr.refl _ _ | exact (Fr.refl _ _).drew | exact Fr.drew (by assumption))) hf) | (go_at_call 135; refine (bstore_any bb bc M.b _ _ v _ (hm.bank.fr0 (by (first | assumption | exact Fr.refl _ _ | exact (Fr.refl _ _).drew | exact Fr.drew (by assumption)))) v0 v1).mono ?_; rintro e w1 ⟨rfl, hf, hb1⟩; replace hf : Fr [bb, bc] w w1 := Fr.trans (Fr.nil (by (first | assumption | exact Fr.refl _ _ | exact (Fr.refl _ _).drew | exact Fr.drew (by assumption)))) hf))
  go_wp2_with fail
  go_end0
  exact ⟨rfl, hf, hm.next hf hb1 (hm.ok.store _ _ _ v0 v1)⟩
end Go.Proofs.Ytaddjigmdeejlaa
