/-
  Two words by one word, on plain numbers: trial quotients of half words. No program in sight.
-/
import Derived.Test.YtkliebhpdcjdgaaDoorPlain
import Derived.Lib.BitFns
namespace Go.Proofs.YtkliebhpdcjdgaaDoor
open Go

theorem bitLen_up {x k : Nat} (h : 2 ^ k ≤ x) (hx : x < 2 ^ 64) : k + 1 ≤ Lib.bitLen x := by
  rw [Lib.bitLen_shift k x h hx]
  have h1 : 0 < x / 2 ^ k := Nat.div_pos h (Nat.two_pow_pos k)
  have h2 : x / 2 ^ k < 2 ^ 64 := Nat.lt_of_le_of_lt (Nat.div_le_self _ _) hx
  rw [Lib.bitLen_half _ (by omega) h2]
  omega
theorem norm64 {y s : Nat} (h0 : 0 < y) (hy : y < 18446744073709551616) (hs : Lib.bitLen y + s = 64) : s ≤ 63 ∧ 9223372036854775808 ≤ y * 2 ^ s ∧ y * 2 ^ s < 18446744073709551616 := by
  have hy' : y < 2 ^ 64 := hy
  obtain ⟨n, hn⟩ : ∃ n, Lib.bitLen y = n := ⟨_, rfl⟩
  rw [hn] at hs
  have n1 : 1 ≤ n := by have := bitLen_up (k := 0) (x := y) (by rw [Nat.pow_zero]; exact h0) hy'; omega
  have up : y < 2 ^ n := by
    rcases Nat.lt_or_ge y (2 ^ n) with h | h
    · exact h
    · have := bitLen_up h hy'; omega
  have dn : 2 ^ (n - 1) ≤ y := by
    rcases Nat.lt_or_ge y (2 ^ (n - 1)) with h | h
    · have := Lib.bitLen_le y (n - 1) (by omega) h; omega
    · exact h
  have e1 : 2 ^ n * 2 ^ s = 18446744073709551616 := by rw [← Nat.pow_add, hs]
  have e2 : 2 ^ (n - 1) * 2 ^ s = 9223372036854775808 := by rw [← Nat.pow_add, show n - 1 + s = 63 by omega]
  refine ⟨by omega, ?_, ?_⟩
  · rw [← e2]; exact Nat.mul_le_mul_right _ dn
  · rw [← e1]; exact Nat.mul_lt_mul_of_pos_right up (Nat.two_pow_pos s)

/-- The shifted words: they stand for the number, shifted. -/
structure Shifted (hi lo y s U V Y L : Nat) : Prop where
  t : s ≤ 63
  hY : Y = y * 2 ^ s
  y1 : 9223372036854775808 ≤ Y
  y2 : Y < 18446744073709551616
  hL : L = lo / 2 ^ (64 - s)
  hU : U = hi * 2 ^ s + L
  hor : hi * 2 ^ s ||| L = U
  hV : V = lo * 2 ^ s % 18446744073709551616
  all : U * 18446744073709551616 + V = (hi * 18446744073709551616 + lo) * 2 ^ s
  uy : U < Y
  l2 : L < 2 ^ s
theorem shifted {hi lo y s : Nat} (h1 : hi < y) (hy : y < 18446744073709551616) (hlo : lo < 18446744073709551616) (hs : Lib.bitLen y + s = 64) :
    ∃ U V Y L, Shifted hi lo y s U V Y L := by
  obtain ⟨t, y1, y2⟩ := norm64 (by omega) hy hs
  have ep : 2 ^ (64 - s) * 2 ^ s = 18446744073709551616 := by rw [← Nat.pow_add, show 64 - s + s = 64 by omega]
  have hp := Nat.two_pow_pos (64 - s)
  have hl2 : lo / 2 ^ (64 - s) < 2 ^ s := Nat.div_lt_of_lt_mul (by rw [ep]; exact hlo)
  have hdm := Nat.div_add_mod lo (2 ^ (64 - s))
  have hml : lo % 2 ^ (64 - s) * 2 ^ s < 18446744073709551616 := by rw [← ep]; exact Nat.mul_lt_mul_of_pos_right (Nat.mod_lt _ hp) (Nat.two_pow_pos s)
  have hlo2 : lo * 2 ^ s = lo / 2 ^ (64 - s) * 18446744073709551616 + lo % 2 ^ (64 - s) * 2 ^ s := by
    rw [← ep, ← Nat.mul_assoc, ← Nat.add_mul, Nat.mul_comm (lo / 2 ^ (64 - s)), hdm]
  have hall : (hi * 2 ^ s + lo / 2 ^ (64 - s)) * 18446744073709551616 + lo * 2 ^ s % 18446744073709551616 = (hi * 18446744073709551616 + lo) * 2 ^ s := by
    have e : (hi * 18446744073709551616 + lo) * 2 ^ s = hi * 2 ^ s * 18446744073709551616 + lo * 2 ^ s := by rw [Nat.add_mul, Nat.mul_right_comm]
    rw [e, hlo2]
    omega
  refine ⟨_, _, _, _, ⟨t, rfl, y1, y2, rfl, rfl, ?_, rfl, hall, ?_, hl2⟩⟩
  · rw [Nat.mul_comm hi, ← Nat.two_pow_add_eq_or_of_lt hl2]
  · have h2 : (hi * 18446744073709551616 + lo) * 2 ^ s < y * 18446744073709551616 * 2 ^ s := Nat.mul_lt_mul_of_pos_right (by omega) (Nat.two_pow_pos s)
    rw [← hall, Nat.mul_right_comm] at h2
    generalize hi * 2 ^ s + lo / 2 ^ (64 - s) = X at h2 ⊢
    generalize y * 2 ^ s = Z at h2 ⊢
    omega

/-- A trial quotient of (U, c) by Y, whose halves are a and b, with what remains of U. -/
structure Trial (Y a b U c q r : Nat) : Prop where
  s : q * a + r = U
  ge : (U * 4294967296 + c) / Y ≤ q
  le : q ≤ 4294967297
  lt : r < 4294967296
/-- What is given of the divisor and the words. -/
structure Two (Y a b U c : Nat) : Prop where
  hY : Y = a * 4294967296 + b
  a1 : 2147483648 ≤ a
  a2 : a < 4294967296
  b2 : b < 4294967296
  uy : U < Y
  c2 : c < 4294967296
section
variable {Y a b U c q r : Nat}
theorem Two.cmp (t : Two Y a b U c) (h : q * a + r = U) : q * Y ≤ U * 4294967296 + c ↔ q * b ≤ 4294967296 * r + c := by
  have e : q * Y = q * a * 4294967296 + q * b := by rw [t.hY, Nat.mul_add, Nat.mul_assoc]
  rw [e, ← h]
  generalize q * a = X
  generalize q * b = Z
  omega
theorem Two.low (t : Two Y a b U c) : (U * 4294967296 + c) / Y < 4294967296 := by
  apply Nat.div_lt_of_lt_mul
  have h1 := t.uy
  have h2 := t.c2
  omega
theorem Two.first (t : Two Y a b U c) : Trial Y a b U c (U / a) (U % a) := by
  have ha : 0 < a := by have := t.a1; omega
  have hd := Nat.div_add_mod U a
  have hm := Nat.mod_lt U ha
  refine ⟨by rw [Nat.mul_comm]; exact hd, ?_, ?_, by have := t.a2; omega⟩
  · rw [Nat.le_div_iff_mul_le ha]
    have h1 := Nat.div_mul_le_self (U * 4294967296 + c) Y
    rw [show (U * 4294967296 + c) / Y * Y = (U * 4294967296 + c) / Y * a * 4294967296 + (U * 4294967296 + c) / Y * b by rw [Nat.mul_assoc _ a, ← Nat.mul_add, ← t.hY]] at h1
    generalize (U * 4294967296 + c) / Y * a = X at h1 ⊢
    generalize (U * 4294967296 + c) / Y * b = Z at h1
    have h2 := t.c2
    omega
  · have h1 := t.uy
    have h2 := t.hY
    have h3 := t.b2
    have h4 := t.a1
    have : U / a < 4294967298 := by rw [Nat.div_lt_iff_lt_mul ha]; omega
    omega
/-- One less, where the trial is too great. -/
theorem Trial.less (h : Trial Y a b U c q r) (t : Two Y a b U c) (hg : 4294967296 ≤ q ∨ 4294967296 * r + c < q * b) : 1 ≤ q ∧ (U * 4294967296 + c) / Y ≤ q - 1 ∧ (q - 1) * a + (r + a) = U := by
  have hq : (U * 4294967296 + c) / Y < q := by
    rcases hg with hg | hg
    · have := t.low; omega
    · have hn : ¬ q * Y ≤ U * 4294967296 + c := fun hle => by have := (t.cmp h.s).1 hle; omega
      rw [Nat.div_lt_iff_lt_mul (by have := t.uy; omega)]
      exact Nat.lt_of_not_le hn
  have hq0 : 0 < q := Nat.lt_of_le_of_lt (Nat.zero_le _) hq
  refine ⟨hq0, Nat.le_sub_one_of_lt hq, ?_⟩
  have hs := h.s
  clear hq
  obtain ⟨p, rfl⟩ : ∃ p, q = p + 1 := ⟨q - 1, by omega⟩
  rw [Nat.add_sub_cancel]
  rw [Nat.succ_mul] at hs
  omega
theorem Trial.on (h : Trial Y a b U c q r) (t : Two Y a b U c) (hg : 4294967296 ≤ q ∨ 4294967296 * r + c < q * b) (hr : r + a < 4294967296) : Trial Y a b U c (q - 1) (r + a) := by
  obtain ⟨h1, h2, h3⟩ := h.less t hg
  exact ⟨h3, h2, by have := h.le; omega, hr⟩
theorem Trial.done (h : Trial Y a b U c q r) (t : Two Y a b U c) (hg : ¬ 4294967296 * r + c < q * b) : q = (U * 4294967296 + c) / Y := by
  have h1 := (t.cmp h.s).2 (by omega)
  have h2 := (Nat.le_div_iff_mul_le (by have := t.uy; omega : 0 < Y)).2 h1
  have := h.ge
  omega
theorem Trial.stop (h : Trial Y a b U c q r) (t : Two Y a b U c) (hg : 4294967296 ≤ q ∨ 4294967296 * r + c < q * b) (hr : 4294967296 ≤ r + a) : q - 1 = (U * 4294967296 + c) / Y := by
  obtain ⟨h1, h2, h3⟩ := h.less t hg
  have hb : (q - 1) * b ≤ 4294967296 * 4294967296 := Nat.mul_le_mul (by have := h.le; omega) (by have := t.b2; omega)
  have h4 := (t.cmp h3).2 (by omega)
  have h5 := (Nat.le_div_iff_mul_le (by have := t.uy; omega : 0 < Y)).2 h4
  omega
end
/-- The halves of the quotient, and the rest. -/
theorem two_halves {U V Y c1 c0 N y s : Nat} (hV : V = c1 * 4294967296 + c0) (hall : U * 18446744073709551616 + V = N * 2 ^ s) (hY : Y = y * 2 ^ s) (h0 : 0 < y) {Q1 R1 Q0 R0 : Nat}
    (e1 : (U * 4294967296 + c1) / Y = Q1) (e2 : (U * 4294967296 + c1) % Y = R1) (e3 : (R1 * 4294967296 + c0) / Y = Q0) (e4 : (R1 * 4294967296 + c0) % Y = R0) : Q1 * 4294967296 + Q0 = N / y ∧ R0 = N % y * 2 ^ s := by
  have hp := Nat.two_pow_pos s
  have hY0 : 0 < Y := by rw [hY]; exact Nat.mul_pos h0 hp
  have d1 := Nat.div_add_mod (U * 4294967296 + c1) Y
  have d2 := Nat.div_add_mod (R1 * 4294967296 + c0) Y
  have l2 := Nat.mod_lt (R1 * 4294967296 + c0) hY0
  rw [e1, e2] at d1
  rw [e3, e4] at d2
  rw [e4] at l2
  have key : N * 2 ^ s = Y * (Q1 * 4294967296 + Q0) + R0 := by
    rw [← hall, hV, Nat.mul_add, ← Nat.mul_assoc]
    generalize Y * Q1 = A at d1 ⊢
    generalize Y * Q0 = B at d2 ⊢
    omega
  have k1 : N * 2 ^ s / Y = Q1 * 4294967296 + Q0 := by rw [key, Nat.mul_add_div hY0, Nat.div_eq_of_lt l2, Nat.add_zero]
  have k2 : N * 2 ^ s % Y = R0 := by rw [key, Nat.mul_add_mod, Nat.mod_eq_of_lt l2]
  rw [hY] at k1 k2
  rw [Nat.mul_div_mul_right _ _ hp] at k1
  rw [Nat.mul_mod_mul_right] at k2
  exact ⟨k1.symm, k2.symm⟩
end Go.Proofs.YtkliebhpdcjdgaaDoor
