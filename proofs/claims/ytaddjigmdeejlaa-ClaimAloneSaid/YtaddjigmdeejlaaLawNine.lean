/- ClaimAlone: alone it gets a slot just if one is free. -/
import Derived.Test.YtaddjigmdeejlaaLawNinec
import Derived.Test.YtaddjigmdeejlaaLawNined
namespace Go.Proofs.Ytaddjigmdeejlaa
open Go.RowKit Go.Ss

theorem claimAlone_walk (w : World) (c : Cfg) (_ : c.W) (v : Value) (l : List Int) (hv : SlI .u64 w v l) (hl : Ws l) (f : Int) (_ : -9223372036854775808 ≤ f ∧ f ≤ 9223372036854775807) :
    Calls Try.prog 3 #[.agg #[.int .i64 c.threads, .int .i64 c.slots, .int .i64 c.cap, .int .i64 c.height, .int .i64 c.keep, .int .i64 c.every, .int .i64 c.last], v, .int .i64 f] w fun e w' => e = .returned (.bool true) ∧ Fr [] w w' := by
  have hv0 := hv
  obtain ⟨a, cap, rfl, h1, h2, h3, h4⟩ := hv0
  by_cases hc : c.R
  · by_cases hn : (l.length : Int) = c.len
    · by_cases h400 : l.length ≤ 400
      · have hb := hc.len_bd
        cases a with
        | none => have := (h3 rfl).1; subst this; simp at hn; omega
        | some ad =>
          obtain ⟨n, hcn⟩ : ∃ n : Nat, c.cap = n := ⟨c.cap.toNat, by have := hc.c0; omega⟩
          have hA := alone9 ⟨c, ⟨l, 0, Ss.Acc.zero⟩⟩ ⟨hc, hn, hl⟩ f n hcn
          obtain ⟨hd, hcf, hcase⟩ := hA
          rcases hcase with h | h
          · exact claimAlone_none c hc l ad cap f n hcn w hv hn h400 hl ⟨hd, hcf, h⟩
          · exact claimAlone_some c hc l ad cap f n hcn w hv hn h400 hl ⟨hd, hcf, h⟩
      · exact claimAlone_out c a l.length cap f w (.inr (.inr ⟨hc, hn, by omega⟩))
    · exact claimAlone_out c a l.length cap f w (.inr (.inl ⟨hc, hn⟩))
  · exact claimAlone_out c a l.length cap f w (.inl hc)
end Go.Proofs.Ytaddjigmdeejlaa
