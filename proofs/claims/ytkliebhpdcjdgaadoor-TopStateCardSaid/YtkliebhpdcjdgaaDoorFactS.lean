/-
  digit.Fact, digit.Rank, culref.Fact, culref.Rank: the walks. Condition: the slice reads as a list of numbers.
-/
import Derived.Test.YtkliebhpdcjdgaaDoorDigitP
import Derived.Test.YtkliebhpdcjdgaaDoorMem
import Derived.Test.YtkliebhpdcjdgaaDoorProg
import Derived.WalkKit
namespace Go.Proofs.YtkliebhpdcjdgaaDoor
open Go.RowKit

theorem fac_i {k : Nat} (h : k ≤ 12) : 1 ≤ (fac k : Int) ∧ (fac k : Int) ≤ 479001600 := by
  have h1 := fac_pos k
  have h2 := fac_12 h
  omega
set_option maxHeartbeats 800000 in
theorem fact_any (m : Nat) (hm : m ≤ 12) (w : World) : Calls Tryd.prog 55 #[.int .i64 m] w fun e w' => e = .returned (.int .i64 (fac m : Int)) ∧ w = w' := by
  go_enter Tryd.func55, Tryd.ntmps55
  go_wp2_with fail
  go_loop [3, 4] (fun o i => ∃ k : Nat, k ≤ 12 ∧ (k ≤ m ∨ k ≤ 1) ∧ i = .int .i64 ((k : Int) + 1) ∧ 1 ≤ k ∧ o = .int .i64 (fac k : Int)) (fun _ i => m + 1 - (intOf i).toNat)
  case atStart => exact ⟨1, by omega, .inr (by omega), rfl, by omega, rfl⟩
  case round =>
    obtain ⟨k, hk, hkm, rfl, hk1, rfl⟩ := hrel
    obtain ⟨f1, f2⟩ := fac_i hk
    by_cases hlt : k + 1 ≤ m
    · obtain ⟨g1, g2⟩ := fac_i (k := k + 1) (by omega)
      have HF := hide (show (fac (k + 1) : Int) = (fac k : Int) * ((k : Int) + 1) by rw [fac, Int.natCast_mul, Int.mul_comm]; rfl)
      have hb : 0 ≤ (fac k : Int) * ((k : Int) + 1) ∧ (fac k : Int) * ((k : Int) + 1) ≤ 479001600 := by rw [← HF.out]; omega
      obtain ⟨hb1, hb2⟩ := hb
      obtain ⟨o, ho⟩ : ∃ o, (fac k : Int) = o := ⟨_, rfl⟩
      rw [ho] at f1 f2 hb1 hb2 HF ⊢
      clear ho g1 g2
      go_wp2_with fail
      go_round
      case rel => exact ⟨k + 1, by omega, .inl hlt, by go_num, by omega, by rw [HF.out]⟩
      case measure => simp [intOf]; omega
    · have HE := hide (show fac k = fac m by
        rcases hkm with h | h
        · rw [show k = m by omega]
        · have : m = 0 ∨ m = 1 := by omega
          rcases this with rfl | rfl <;> rw [show k = 1 by omega] <;> rfl)
      go_wp2_with fail
      go_ret
      exact ⟨by rw [HE.out]; rfl, rfl⟩
end Go.Proofs.YtkliebhpdcjdgaaDoor
