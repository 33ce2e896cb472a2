/-
  gate.Part, gate.Count, culref.less: the walks. Conditions: those that each names.
-/
import Derived.Test.YtjmkejindmgckaaGate
namespace Go.Proofs.Ytjmkejindmgckaa
open Go.RowKit Go.Shelf

theorem mulAll {y N hi lo : Nat} (hN : 72057594037927936 * y = N) (hy : y < 18446744073709551616) (h1 : N / 18446744073709551616 = hi) (h2 : N % 18446744073709551616 = lo) (w : World) :
    Calls Try.prog 85 #[.int .u64 72057594037927936, .int .u64 y] w fun e w' => e = .returned (.tuple #[.int .u64 hi, .int .u64 lo]) ∧ w = w' := by
  have k := mul64 (x := 72057594037927936) hN (by decide) hy w
  rw [h1, h2] at k
  exact k
theorem mulIs {x y N hi lo : Nat} (hN : x * y = N) (hx : x < 18446744073709551616) (hy : y < 18446744073709551616) (h1 : N / 18446744073709551616 = hi) (h2 : N % 18446744073709551616 = lo) (w : World) :
    Calls Try.prog 85 #[.int .u64 x, .int .u64 y] w fun e w' => e = .returned (.tuple #[.int .u64 hi, .int .u64 lo]) ∧ w = w' := by
  have k := mul64 hN hx hy w
  rw [h1, h2] at k
  exact k

def partBad (num den : Int) : Prop := den < 1 ∨ (¬ den < 1 ∧ 1000000000000 < den) ∨ (¬ den < 1 ∧ ¬ 1000000000000 < den ∧ num < 1) ∨ (¬ den < 1 ∧ ¬ 1000000000000 < den ∧ ¬ num < 1 ∧ den < num)
theorem part_bad {num den : Int} (h : partBad num den) (w : World) : Calls Try.prog 52 #[.int .i64 num, .int .i64 den] w fun e w' => e = .returned (.tuple #[.int .i64 0, .int .i64 1]) ∧ w = w' := by
  rcases h with h | ⟨h, h2⟩ | ⟨h, h2, h3⟩ | ⟨h, h2, h3, h4⟩
  all_goals
    go_enter Try.func52, Try.ntmps52
    go_wp2_with fail
    go_ret2
    exact ⟨rfl, rfl⟩
theorem hi_low {x N hi lo : Nat} (hN : 72057594037927936 * x = N) (h : x ≤ 1000000000000) (h1 : N / 18446744073709551616 = hi) (h2 : N % 18446744073709551616 = lo) : hi * 18446744073709551616 + lo = N ∧ hi ≤ x ∧ hi * 256 ≤ x ∧ lo < 18446744073709551616 := by omega
set_option maxHeartbeats 1000000 in
theorem part_ok {num den C : Nat} (n1 : 1 ≤ num) (n2 : num ≤ den) (n3 : den ≤ 1000000000000) (hC : ceilOf (72057594037927936 * num) den = C) (w : World) :
    Calls Try.prog 52 #[.int .i64 num, .int .i64 den] w fun e w' => e = .returned (.tuple #[.int .i64 (72057594037927936 - (C : Int)), .int .i64 0]) ∧ ∃ q, w' = w.drewN q := by
  obtain ⟨N, hN⟩ : ∃ N, 72057594037927936 * num = N := ⟨_, rfl⟩
  obtain ⟨hi, hh⟩ : ∃ hi, N / 18446744073709551616 = hi := ⟨_, rfl⟩
  obtain ⟨lo, hl⟩ : ∃ lo, N % 18446744073709551616 = lo := ⟨_, rfl⟩
  obtain ⟨g1, g2, g3, g4⟩ := hi_low hN (by omega) hh hl
  obtain ⟨A, hA⟩ : ∃ A, N / den = A := ⟨_, rfl⟩
  obtain ⟨R, hR⟩ : ∃ R, N % den = R := ⟨_, rfl⟩
  rw [hN, ceilOf, hA, hR] at hC
  have hAb : A ≤ 72057594037927936 := by
    rw [← hA]; apply Nat.div_le_of_le_mul; rw [← hN, Nat.mul_comm]; exact Nat.mul_le_mul_right _ n2
  have hCb : C ≤ 72057594037927936 := by
    have e : ceilOf N den = C := by rw [ceilOf, hA, hR]; exact hC
    rw [← e, ceil_le (by omega), ← hN]; exact Nat.mul_le_mul_left _ n2
  have HN := hide hN
  have HH := hide hh
  have HL := hide hl
  have G1 := hide g1
  have HA := hide hA
  have HR := hide hR
  have HC := hide hC
  have b1 : ¬ (den : Int) < 1 := by omega
  have b2 : ¬ (1000000000000 : Int) < (den : Int) := by omega
  have b3 : ¬ (num : Int) < 1 := by omega
  have b4 : ¬ (den : Int) < (num : Int) := by omega
  have en : IntKind.u64.wrap (num : Int) = (num : Int) := wrapU_id (by omega)
  have ed : IntKind.u64.wrap (den : Int) = (den : Int) := wrapU_id (by omega)
  have hlt : hi < den := by omega
  clear hN hh hl g1 hA hR g3
  by_cases hr : R = 0
  · have hC2 : A = C := by have := HC.out; rw [if_pos hr] at this; omega
    subst hC2
    have r0 : ¬ (0 : Int) < (R : Int) := by omega
    clear hC
    go_enter Try.func52, Try.ntmps52
    go_wp2_with fail
    refine (mulAll HN.out (by omega) HH.out HL.out _).mono ?_
    rintro e w' ⟨rfl, rfl⟩
    go_wp2_with fail
    refine (div64 G1.out hlt (by omega) g4 _ HA.out HR.out).mono ?_
    rintro e w' ⟨rfl, q, rfl⟩
    go_wp2_with fail
    go_ret2
    exact ⟨rfl, q, rfl⟩
  · have hC2 : A + 1 = C := by have := HC.out; rw [if_neg hr] at this; exact this
    have r0 : (0 : Int) < (R : Int) := by omega
    have eA : IntKind.u64.wrap ((A : Int) + 1) = (C : Int) := by rw [IntKind.wrap_u64]; omega
    clear hC hC2
    go_enter Try.func52, Try.ntmps52
    go_wp2_with fail
    refine (mulAll HN.out (by omega) HH.out HL.out _).mono ?_
    rintro e w' ⟨rfl, rfl⟩
    go_wp2_with fail
    refine (div64 G1.out hlt (by omega) g4 _ HA.out HR.out).mono ?_
    rintro e w' ⟨rfl, q, rfl⟩
    go_wp2_with fail
    go_ret2
    exact ⟨rfl, q, rfl⟩

def countBad (n th : Int) : Prop := n < 0 ∨ (¬ n < 0 ∧ 1000000000000 < n) ∨ (¬ n < 0 ∧ ¬ 1000000000000 < n ∧ isDraw th = false)
theorem count_bad {n th : Int} (h : countBad n th) (w : World) : Calls Try.prog 53 #[.int .i64 n, .int .i64 th] w fun e w' => e = .returned (.tuple #[.int .i64 0, .int .i64 1]) ∧ w = w' := by
  rcases h with h | ⟨h, h2⟩ | ⟨h, h2, h3⟩
  · go_enter Try.func53, Try.ntmps53
    go_wp2_with fail
    go_ret2
    exact ⟨rfl, rfl⟩
  · go_enter Try.func53, Try.ntmps53
    go_wp2_with fail
    go_ret2
    exact ⟨rfl, rfl⟩
  · have H := hide h3
    clear h3
    go_enter Try.func53, Try.ntmps53
    go_wp2_with fail
    refine (hnum_is H.out _).mono ?_
    rintro e w' ⟨rfl, rfl⟩
    go_wp2_with fail
    go_ret2
    exact ⟨rfl, rfl⟩
theorem big_q {d hi lo N F : Nat} (d0 : 1 ≤ d) (g : hi * 18446744073709551616 + lo = N) (h : d ≤ hi) (hF : N / d = F) : ¬ F ≤ 4611686018427387904 := by
  have h1 : 18446744073709551616 * d ≤ N := by omega
  have h2 := (Nat.le_div_iff_mul_le (k := d) (x := 18446744073709551616) (y := N) d0).2 h1
  rw [hF] at h2
  omega
set_option maxHeartbeats 1000000 in
/-- d is what remains of all above the threshold. -/
theorem count_ok {n th d F : Nat} (n2 : n ≤ 1000000000000) (hd : th + d = 72057594037927936) (d0 : 1 ≤ d) (hF : 72057594037927936 * n / d = F) (w : World) :
    Calls Try.prog 53 #[.int .i64 n, .int .i64 th] w fun e w' => e = .returned (.tuple #[.int .i64 (if F ≤ 4611686018427387904 then (F : Int) else 0), .int .i64 (if F ≤ 4611686018427387904 then 0 else 2)]) ∧ ∃ q, w' = w.drewN q := by
  obtain ⟨N, hN⟩ : ∃ N, 72057594037927936 * n = N := ⟨_, rfl⟩
  obtain ⟨hi, hh⟩ : ∃ hi, N / 18446744073709551616 = hi := ⟨_, rfl⟩
  obtain ⟨lo, hl⟩ : ∃ lo, N % 18446744073709551616 = lo := ⟨_, rfl⟩
  obtain ⟨g1, g2, g3, g4⟩ := hi_low hN (by omega) hh hl
  obtain ⟨R, hR⟩ : ∃ R, N % d = R := ⟨_, rfl⟩
  rw [hN] at hF
  have HD := hide (show isDraw (th : Int) = true from inR_yes (by omega))
  have big : d ≤ hi → ¬ F ≤ 4611686018427387904 := fun h => big_q d0 g1 h hF
  have HN := hide hN
  have HH := hide hh
  have HL := hide hl
  have G1 := hide g1
  have HF := hide hF
  have HR := hide hR
  have b1 : ¬ (n : Int) < 0 := by omega
  have b2 : ¬ (1000000000000 : Int) < (n : Int) := by omega
  have en : IntKind.u64.wrap (n : Int) = (n : Int) := wrapU_id (by omega)
  have es : IntKind.i64.wrap (72057594037927936 - (th : Int)) = (d : Int) := by rw [show (72057594037927936 : Int) - (th : Int) = (d : Int) by omega]; exact IntWalk.i64_in _ (by omega)
  have ed : IntKind.u64.wrap (d : Int) = (d : Int) := wrapU_id (by omega)
  have hdb : d ≤ 72057594037927936 := by omega
  clear hN hh hl g1 hF hR g3 hd
  by_cases hc : d ≤ hi
  · have hx := big hc
    rw [if_neg hx, if_neg hx]
    have c1 : (d : Int) ≤ (hi : Int) := by omega
    clear big hx hc
    go_enter Try.func53, Try.ntmps53
    go_wp2_with fail
    refine (hnum_is HD.out _).mono ?_
    rintro e w' ⟨rfl, rfl⟩
    go_wp2_with fail
    refine (mulAll HN.out (by omega) HH.out HL.out _).mono ?_
    rintro e w' ⟨rfl, rfl⟩
    go_wp2_with fail
    go_ret2
    exact ⟨rfl, 0, rfl⟩
  · have c1 : ¬ (d : Int) ≤ (hi : Int) := by omega
    have hlt : hi < d := by omega
    have fb : F < 18446744073709551616 := by
      rw [← HF.out]; apply Nat.div_lt_of_lt_mul; rw [← G1.out, Nat.mul_comm]
      omega
    clear big hc
    by_cases hx : F ≤ 4611686018427387904
    · rw [if_pos hx, if_pos hx]
      have c2 : ¬ (4611686018427387904 : Int) < (F : Int) := by omega
      have ew : IntKind.i64.wrap (F : Int) = (F : Int) := IntWalk.i64_in _ (by omega)
      go_enter Try.func53, Try.ntmps53
      go_wp2_with fail
      refine (hnum_is HD.out _).mono ?_
      rintro e w' ⟨rfl, rfl⟩
      go_wp2_with fail
      refine (mulAll HN.out (by omega) HH.out HL.out _).mono ?_
      rintro e w' ⟨rfl, rfl⟩
      go_wp2_with fail
      refine (div64 G1.out hlt (by omega) g4 _ HF.out HR.out).mono ?_
      rintro e w' ⟨rfl, q, rfl⟩
      go_wp2_with fail
      go_ret2
      exact ⟨rfl, q, rfl⟩
    · rw [if_neg hx, if_neg hx]
      have c2 : (4611686018427387904 : Int) < (F : Int) := by omega
      go_enter Try.func53, Try.ntmps53
      go_wp2_with fail
      refine (hnum_is HD.out _).mono ?_
      rintro e w' ⟨rfl, rfl⟩
      go_wp2_with fail
      refine (mulAll HN.out (by omega) HH.out HL.out _).mono ?_
      rintro e w' ⟨rfl, rfl⟩
      go_wp2_with fail
      refine (div64 G1.out hlt (by omega) g4 _ HF.out HR.out).mono ?_
      rintro e w' ⟨rfl, q, rfl⟩
      go_wp2_with fail
      go_ret2
      exact ⟨rfl, q, rfl⟩

set_option maxHeartbeats 1000000 in
theorem less_ok {a b c d : Nat} {V : Bool} (ha : a < 9223372036854775808) (hb : b < 9223372036854775808) (hc : c < 9223372036854775808) (hd : d < 9223372036854775808) (hV : decide (a * b < c * d) = V) (w : World) :
    Calls Try.prog 87 #[.int .i64 a, .int .i64 b, .int .i64 c, .int .i64 d] w fun e w' => e = .returned (.bool V) ∧ w = w' := by
  obtain ⟨M, hM⟩ : ∃ M, a * b = M := ⟨_, rfl⟩
  obtain ⟨N, hN⟩ : ∃ N, c * d = N := ⟨_, rfl⟩
  rw [hM, hN] at hV
  obtain ⟨h, hh⟩ : ∃ h, M / 18446744073709551616 = h := ⟨_, rfl⟩
  obtain ⟨l, hl⟩ : ∃ l, M % 18446744073709551616 = l := ⟨_, rfl⟩
  obtain ⟨i, hi⟩ : ∃ i, N / 18446744073709551616 = i := ⟨_, rfl⟩
  obtain ⟨m, hm⟩ : ∃ m, N % 18446744073709551616 = m := ⟨_, rfl⟩
  have key : V = decide (h < i ∨ h = i ∧ l < m) := by
    rw [← hV]; congr 1; apply propext; omega
  have HM := hide hM
  have HN := hide hN
  have Hh := hide hh
  have Hl := hide hl
  have Hi := hide hi
  have Hm := hide hm
  have ea : IntKind.u64.wrap (a : Int) = (a : Int) := wrapU_id (by omega)
  have eb : IntKind.u64.wrap (b : Int) = (b : Int) := wrapU_id (by omega)
  have ec : IntKind.u64.wrap (c : Int) = (c : Int) := wrapU_id (by omega)
  have ed : IntKind.u64.wrap (d : Int) = (d : Int) := wrapU_id (by omega)
  have K := hide key
  clear hM hN hV hh hl hi hm key
  have walk : ∀ v : Bool, V = v → (((h : Int) < (i : Int) ∧ v = true) ∨ (¬ (h : Int) < (i : Int) ∧ (((h : Int) == (i : Int)) = false) ∧ v = false) ∨ (¬ (h : Int) < (i : Int) ∧ (((h : Int) == (i : Int)) = true) ∧ (l : Int) < (m : Int) ∧ v = true) ∨ (¬ (h : Int) < (i : Int) ∧ (((h : Int) == (i : Int)) = true) ∧ ¬ (l : Int) < (m : Int) ∧ v = false)) →
      Calls Try.prog 87 #[.int .i64 a, .int .i64 b, .int .i64 c, .int .i64 d] w fun e w' => e = .returned (.bool V) ∧ w = w' := by
    intro v hv hcs
    have HV := hide hv
    clear hv
    rcases hcs with ⟨h1, rfl⟩ | ⟨h1, h2, rfl⟩ | ⟨h1, h2, h3, rfl⟩ | ⟨h1, h2, h3, rfl⟩
    all_goals
      go_enter Try.func87, Try.ntmps87
      go_wp2_with fail
      refine (mulIs HM.out (by omega) (by omega) Hh.out Hl.out _).mono ?_
      rintro e w' ⟨rfl, rfl⟩
      go_wp2_with fail
      refine (mulIs HN.out (by omega) (by omega) Hi.out Hm.out _).mono ?_
      rintro e w' ⟨rfl, rfl⟩
      go_wp2_with fail
      go_ret
      exact ⟨by rw [HV.out]; first | rfl | (refine congrArg (fun b => Ending.returned (Value.bool b)) ?_; simp; omega), rfl⟩
  by_cases q1 : h < i
  · exact walk true (by rw [K.out]; simp [q1]) (.inl ⟨by omega, rfl⟩)
  · by_cases q2 : h = i
    · by_cases q3 : l < m
      · exact walk true (by rw [K.out]; simp [q2, q3]) (.inr (.inr (.inl ⟨by omega, by simp [q2], by omega, rfl⟩)))
      · exact walk false (by rw [K.out]; simp [q2, q3]) (.inr (.inr (.inr ⟨by omega, by simp [q2], by omega, rfl⟩)))
    · exact walk false (by rw [K.out]; simp [q1, q2]) (.inr (.inl ⟨by omega, by simp; omega, rfl⟩))
end Go.Proofs.Ytjmkejindmgckaa
