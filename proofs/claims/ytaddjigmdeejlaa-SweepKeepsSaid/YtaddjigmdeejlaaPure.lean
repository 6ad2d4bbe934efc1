/- Plain definitions: words, configurations, banks, and what the accesses of a bank make of it. No program in sight. -/
import Derived.Laws.BitsAllLaws
import Derived.Laws.Entries
import Derived.IntWalk
namespace Go.Ss

/-! ### Words of nodes -/
def valid (x : Int) : Bool := decide (9223372036854775808 ≤ x)
def marked (x : Int) : Bool := decide (x / 4611686018427387904 % 2 = 1)
def hidx (x : Int) : Int := x % 4294967296
def hgen (x : Int) : Int := x / 4294967296 % 1073741824
def plain (x : Int) : Int := if marked x then x - 4611686018427387904 else x
def hmark (x : Int) : Int := if marked x then x else x + 4611686018427387904
def packW (i g : Int) : Int := 9223372036854775808 + 4294967296 * g + i

/-! ### Words of slots -/
def sState (x : Int) : Int := x % 4
def sGen (x : Int) : Int := if x / 4 ≤ 1073741823 then x / 4 else 1073741823
def clamp (n lo hi : Int) : Int := max lo (min n hi)
def sAfter (gen last : Int) : Int := if max gen 0 ≥ clamp last 0 1073741823 then 4 * clamp last 0 1073741823 + 2 else 4 * (max gen 0) + 4
def sMeta (st gen : Int) : Int := 4 * gen + st

theorem hidx_bd (x : Int) : 0 ≤ hidx x ∧ hidx x ≤ 4294967295 := by unfold hidx; omega
theorem hgen_bd (x : Int) : 0 ≤ hgen x ∧ hgen x ≤ 1073741823 := by unfold hgen; omega
theorem plain_bd (x : Int) (h0 : 0 ≤ x) (h1 : x < 18446744073709551616) : 0 ≤ plain x ∧ plain x < 18446744073709551616 := by
  unfold plain marked
  by_cases h : x / 4611686018427387904 % 2 = 1 <;> simp [h] <;> omega
theorem sGen_bd (x : Int) (h0 : 0 ≤ x) : 0 ≤ sGen x ∧ sGen x ≤ 1073741823 := by unfold sGen; split <;> omega
theorem clamp_bd (n lo hi : Int) (h : lo ≤ hi) : lo ≤ clamp n lo hi ∧ clamp n lo hi ≤ hi := by unfold clamp; omega
theorem sAfter_bd (g l : Int) (hg : g ≤ 1073741823) : 0 ≤ sAfter g l ∧ sAfter g l ≤ 4294967298 := by
  have := clamp_bd l 0 1073741823 (by omega)
  unfold sAfter; split <;> omega

/-! ### The bits of the program's text -/
theorem b_and3 (x : Int) (h0 : 0 ≤ x) (h1 : x < 18446744073709551616) : bits .and .u64 x 3 = x % 4 := by
  rw [u64_and x 3 h0 h1 (by omega) (by omega)]
  show ((x.toNat &&& 3 : Nat) : Int) = _
  rw [nat_mask2]; omega
theorem b_mask32 (x : Int) (h0 : 0 ≤ x) (h1 : x < 18446744073709551616) : bits .and .u64 x 4294967295 = x % 4294967296 := by
  rw [u64_and x 4294967295 h0 h1 (by omega) (by omega)]
  show ((x.toNat &&& 4294967295 : Nat) : Int) = _
  have := Nat.and_two_pow_sub_one_eq_mod x.toNat 32
  simp only [Nat.reducePow, Nat.reduceSub] at this
  rw [this]; omega
theorem b_mask30 (x : Int) (h0 : 0 ≤ x) (h1 : x < 18446744073709551616) : bits .and .u64 x 1073741823 = x % 1073741824 := by
  rw [u64_and x 1073741823 h0 h1 (by omega) (by omega)]
  show ((x.toNat &&& 1073741823 : Nat) : Int) = _
  have := Nat.and_two_pow_sub_one_eq_mod x.toNat 30
  simp only [Nat.reducePow, Nat.reduceSub] at this
  rw [this]; omega
theorem b_bit62 (x : Int) (h0 : 0 ≤ x) (h1 : x < 18446744073709551616) : bits .and .u64 x 4611686018427387904 = x / 4611686018427387904 % 2 * 4611686018427387904 := by
  rw [u64_and x _ h0 h1 (by omega) (by omega)]
  show ((x.toNat &&& 4611686018427387904 : Nat) : Int) = _
  have := nat_bit 62 x.toNat
  simp only [Nat.reducePow] at this
  rw [this]; omega
theorem b_bit63 (x : Int) (h0 : 0 ≤ x) (h1 : x < 18446744073709551616) : bits .and .u64 x 9223372036854775808 = x / 9223372036854775808 % 2 * 9223372036854775808 := by
  rw [u64_and x _ h0 h1 (by omega) (by omega)]
  show ((x.toNat &&& 9223372036854775808 : Nat) : Int) = _
  have := nat_bit 63 x.toNat
  simp only [Nat.reducePow] at this
  rw [this]; omega
theorem b_valid (x : Int) (h0 : 0 ≤ x) (h1 : x < 18446744073709551616) : (bits .and .u64 x 9223372036854775808 != 0) = valid x := by
  rw [b_bit63 x h0 h1]; unfold valid
  rw [Bool.eq_iff_iff]; simp only [bne_iff_ne, decide_eq_true_eq]; omega
theorem b_marked (x : Int) (h0 : 0 ≤ x) (h1 : x < 18446744073709551616) : (bits .and .u64 x 4611686018427387904 != 0) = marked x := by
  rw [b_bit62 x h0 h1]; unfold marked
  rw [Bool.eq_iff_iff]; simp only [bne_iff_ne, decide_eq_true_eq]; omega
theorem nat_andNot_bit (x i n : Nat) (hx : x < 2 ^ n) : x &&& (2 ^ n - 1 - 2 ^ i) = x - (x / 2 ^ i % 2) * 2 ^ i ∨ n ≤ i := by
  rcases Nat.lt_or_ge i n with hi | hi
  · left
    have h1 : 2 ^ n - 1 - 2 ^ i = (2 ^ n - 1) ^^^ 2 ^ i := by
      apply Nat.eq_of_testBit_eq
      intro j
      rw [Nat.testBit_xor, Nat.testBit_two_pow_sub_one, Nat.testBit_two_pow]
      have h2 : 2 ^ i < 2 ^ n := Nat.pow_lt_pow_right (by omega) hi
      have h3 : 2 ^ n - 1 - 2 ^ i = 2 ^ n - (2 ^ i + 1) := by omega
      rw [h3, Nat.testBit_two_pow_sub_succ h2, Nat.testBit_two_pow]
      by_cases hj : j < n <;> by_cases hij : i = j <;> simp [hj, hij] <;> omega
    have h4 : (x &&& (2 ^ n - 1 - 2 ^ i)) = (x / 2 ^ (i + 1) * 2 ^ (i + 1)) ||| (x % 2 ^ i) := by
      rw [h1]
      apply Nat.eq_of_testBit_eq; intro j
      simp only [Nat.testBit_or, Nat.testBit_and, Nat.testBit_xor, Nat.testBit_two_pow_sub_one, Nat.testBit_two_pow, Nat.testBit_mul_two_pow, Nat.testBit_div_two_pow, Nat.testBit_mod_two_pow]
      by_cases hj : j < n
      · rcases Nat.lt_trichotomy i j with hij | hij | hij
        · have e : i + 1 + (j - (i + 1)) = j := by omega
          have a1 : ¬ i = j := by omega
          have a2 : i + 1 ≤ j := by omega
          have a3 : ¬ j < i := by omega
          have e' : j - (i + 1) + (i + 1) = j := by omega
          simp [e', hj, a1, a2, a3]
        · subst hij
          have a2 : ¬ i + 1 ≤ i := by omega
          simp [hj, a2]
        · have a1 : ¬ i = j := by omega
          have a2 : ¬ i + 1 ≤ j := by omega
          simp [hj, a1, a2, hij]
      · have hx' : x.testBit j = false := Nat.testBit_lt_two_pow (Nat.lt_of_lt_of_le hx (Nat.pow_le_pow_right (by omega) (by omega)))
        have a3 : ¬ j < i := by omega
        have e : i + 1 ≤ j → i + 1 + (j - (i + 1)) = j := by omega
        by_cases a2 : i + 1 ≤ j
        · have e' : j - (i + 1) + (i + 1) = j := by omega
          simp [hx', a3, a2, e']
        · simp [hx', a3, a2]
    rw [h4, nat_join (i + 1) _ _ (Nat.mul_mod_left _ _) (Nat.lt_trans (Nat.mod_lt _ (Nat.two_pow_pos i)) (Nat.pow_lt_pow_right (by omega) (by omega)))]
    have h5 : x / 2 ^ (i + 1) = x / 2 ^ i / 2 := by rw [Nat.pow_succ, Nat.div_div_eq_div_mul]
    have h6 := Nat.div_add_mod x (2 ^ i)
    have h7 := Nat.div_add_mod (x / 2 ^ i) 2
    have h8 : 2 ^ i * (x / 2 ^ i) = x / 2 ^ i / 2 * 2 ^ (i + 1) + x / 2 ^ i % 2 * 2 ^ i := by
      conv => lhs; rw [← h7]
      rw [Nat.pow_succ, Nat.mul_add, Nat.mul_comm (2 ^ i) (x / 2 ^ i % 2), ← Nat.mul_assoc, Nat.mul_comm (2 ^ i) 2, Nat.mul_comm (2 * 2 ^ i) _, Nat.mul_comm 2 (2 ^ i)]
    rw [h5]
    omega
  · exact .inr hi
theorem b_plain (x : Int) (h0 : 0 ≤ x) (h1 : x < 18446744073709551616) : bits .andNot .u64 x 4611686018427387904 = plain x := by
  rw [u64_andNot x _ h0 h1 (by omega) (by omega)]
  show ((x.toNat &&& (18446744073709551615 - 4611686018427387904) : Nat) : Int) = _
  rcases nat_andNot_bit x.toNat 62 64 (by simp only [Nat.reducePow]; omega) with h | h
  · simp only [Nat.reducePow, Nat.reduceSub] at h ⊢
    rw [h]; unfold plain marked
    by_cases hm : x / 4611686018427387904 % 2 = 1
    · simp only [hm, decide_true, if_true]
      omega
    · simp only [hm, decide_false, Bool.false_eq_true, if_false]
      omega
  · omega
theorem b_mark (x : Int) (h0 : 0 ≤ x) (h1 : x < 18446744073709551616) : bits .or .u64 x 4611686018427387904 = hmark x := by
  have hp := b_plain x h0 h1
  rw [u64_or x _ h0 h1 (by omega) (by omega)]
  have e : (x.toNat ||| 4611686018427387904) = (x.toNat / 2 ^ 63 * 2 ^ 63 + 2 ^ 62) + x.toNat % 2 ^ 62 := by
    rw [← nat_join 62 _ _ (by omega) (Nat.mod_lt _ (by omega)), ← nat_join 63 _ _ (Nat.mul_mod_left _ _) (by omega)]
    apply Nat.eq_of_testBit_eq; intro j
    have e4 : (4611686018427387904 : Nat) = 2 ^ 62 := by decide
    rw [e4]
    simp only [Nat.testBit_or, Nat.testBit_two_pow, Nat.testBit_mul_two_pow, Nat.testBit_div_two_pow, Nat.testBit_mod_two_pow]
    rcases Nat.lt_trichotomy 62 j with hij | hij | hij
    · have e' : j - 63 + 63 = j := by omega
      have a1 : ¬ 62 = j := by omega
      have a2 : 63 ≤ j := by omega
      have a3 : ¬ j < 62 := by omega
      simp [e', a1, a2, a3]
    · subst hij; simp
    · have a1 : ¬ 62 = j := by omega
      have a2 : ¬ 63 ≤ j := by omega
      simp [a1, a2, hij]
  show ((x.toNat ||| 4611686018427387904 : Nat) : Int) = _
  rw [e]; unfold hmark marked
  by_cases hm : x / 4611686018427387904 % 2 = 1
  · simp only [hm, decide_true, if_true]; omega
  · simp only [hm, decide_false, Bool.false_eq_true, if_false]; omega
end Go.Ss
