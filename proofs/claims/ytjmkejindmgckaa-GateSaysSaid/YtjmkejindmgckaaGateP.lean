/-
  Shares of all draws on plain numbers: what is found bit by bit is the quotient. No program in sight.
-/
import Derived.Test.YtjmkejindmgckaaPlain
namespace Go.Proofs.Ytjmkejindmgckaa

/-- The least number of draws that is no less than a share num of den of 2^56. -/
def ceilOf (a d : Nat) : Nat := a / d + if a % d = 0 then 0 else 1
theorem ceil_le {a d x : Nat} (hd : 0 < d) : ceilOf a d ≤ x ↔ a ≤ x * d := by
  have h1 := Nat.div_add_mod a d
  have h2 := Nat.mod_lt a hd
  unfold ceilOf
  constructor
  · intro h
    by_cases e : a % d = 0
    · rw [if_pos e] at h
      have : a / d * d ≤ x * d := Nat.mul_le_mul_right d (by omega)
      rw [Nat.mul_comm d] at h1
      omega
    · rw [if_neg e] at h
      have : (a / d + 1) * d ≤ x * d := Nat.mul_le_mul_right d h
      rw [Nat.succ_mul] at this
      rw [Nat.mul_comm d] at h1
      omega
  · intro h
    have h3 : a / d ≤ x := Nat.div_le_of_le_mul (by rw [Nat.mul_comm]; exact h)
    by_cases e : a % d = 0
    · rw [if_pos e]; omega
    · rw [if_neg e]
      rcases Nat.lt_or_ge (a / d) x with h4 | h4
      · omega
      · have e2 : a / d = x := by omega
        rw [← e2, Nat.mul_comm] at h
        omega
theorem ceil_gt {a d x : Nat} (hd : 0 < d) : x < ceilOf a d ↔ x * d < a := by
  have := ceil_le (a := a) (x := x) hd
  omega
/-- One bit more, from the top. few and its bits below b. -/
def partStep (C b few : Nat) : Nat := if few + 2 ^ b ≤ C then few + 2 ^ b else few
/-- k bits have been tried, from the B-th on. -/
def partTo (C B : Nat) : Nat → Nat
  | 0 => 0
  | k + 1 => partStep C (B - k) (partTo C B k)
theorem partTo_inv {C B : Nat} (hC : C < 2 ^ (B + 1)) : ∀ k, k ≤ B + 1 → partTo C B k ≤ C ∧ C < partTo C B k + 2 ^ (B + 1 - k) ∧ 2 ^ (B + 1 - k) ∣ partTo C B k
  | 0, _ => by simp [partTo, hC]
  | k + 1, hk => by
    obtain ⟨h1, h2, h3⟩ := partTo_inv hC k (by omega)
    have e : B + 1 - k = (B - k) + 1 := by omega
    have e2 : B + 1 - (k + 1) = B - k := by omega
    rw [e, Nat.pow_succ] at h2 h3
    rw [e2, partTo, partStep]
    obtain ⟨q, hq⟩ := h3
    split
    · rename_i h
      refine ⟨h, by omega, ⟨q * 2 + 1, ?_⟩⟩
      rw [Nat.mul_add, Nat.mul_one, ← Nat.mul_assoc, Nat.mul_right_comm, ← hq]
    · rename_i h
      exact ⟨h1, by omega, ⟨q * 2, by rw [← Nat.mul_assoc, Nat.mul_right_comm, ← hq]⟩⟩
theorem partTo_all {C B : Nat} (hC : C < 2 ^ (B + 1)) : partTo C B (B + 1) = C := by
  obtain ⟨h1, h2, _⟩ := partTo_inv hC (B + 1) (Nat.le_refl _)
  rw [Nat.sub_self] at h2
  omega
theorem or_bit {x b : Nat} (h : 2 ^ (b + 1) ∣ x) : x ||| 2 ^ b = x + 2 ^ b := by
  obtain ⟨q, rfl⟩ := h
  rw [← Nat.two_pow_add_eq_or_of_lt (Nat.pow_lt_pow_right (by decide) (Nat.lt_succ_self b))]
end Go.Proofs.Ytjmkejindmgckaa
