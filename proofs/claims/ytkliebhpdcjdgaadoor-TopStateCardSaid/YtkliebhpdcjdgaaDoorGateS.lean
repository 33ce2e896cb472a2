/-
  gate.Keep, gate.Level, gate.Count beside the texts of hexa: the walks. Conditions: those that each names.
-/
import Derived.Test.YtkliebhpdcjdgaaDoorHexa
import Derived.Test.YtkliebhpdcjdgaaDoorMulT
import Derived.Test.YtkliebhpdcjdgaaDoorEq
namespace Go.Proofs.YtkliebhpdcjdgaaDoor
open Go.RowKit Go.Shelf

theorem keep_ok {th r : Int} (h : isDraw th = true) (h2 : isDraw r = true) (w : World) : Calls Tryd.prog 11 #[.int .i64 th, .int .i64 r] w fun e w' => e = .returned (.tuple #[.bool (decide (th ≤ r)), .int .i64 0]) ∧ w = w' := by
  have H := hide h
  have H2 := hide h2
  clear h h2
  go_enter Tryd.func11, Tryd.ntmps11
  go_wp2_with fail
  refine (hnum_is H.out _).mono ?_
  rintro e w' ⟨rfl, rfl⟩
  go_wp2_with fail
  refine (hnum_is H2.out _).mono ?_
  rintro e w' ⟨rfl, rfl⟩
  go_wp2_with fail
  go_ret2
  exact ⟨rfl, rfl⟩

theorem glevel_ok {k D : Nat} (h : k ≤ 20) (hD : 72057594037927936 / 2 ^ k = D) (w : World) : Calls Tryd.prog 10 #[.int .i64 k] w fun e w' => e = .returned (.tuple #[.int .i64 (72057594037927936 - (D : Int)), .int .i64 0]) ∧ w = w' := by
  have eD : (72057594037927936 : Int) / 2 ^ k = (D : Int) := by rw [← hD, Int.natCast_ediv, Int.natCast_pow]; rfl
  have hDl : D ≤ 72057594037927936 := by rw [← hD]; exact Nat.div_le_self _ _
  have ms : min k 64 = k := by omega
  have h1 : ¬ (k : Int) < 0 := by omega
  have h2 : ¬ 20 < (k : Int) := by omega
  clear hD
  go_enter Tryd.func10, Tryd.ntmps10
  go_wp2_with fail
  go_ret2
  exact ⟨rfl, rfl⟩
theorem mulAll {y N hi lo : Nat} (hN : 72057594037927936 * y = N) (hy : y < 18446744073709551616) (h1 : N / 18446744073709551616 = hi) (h2 : N % 18446744073709551616 = lo) (w : World) :
    Calls Tryd.prog 43 #[.int .u64 72057594037927936, .int .u64 y] w fun e w' => e = .returned (.tuple #[.int .u64 hi, .int .u64 lo]) ∧ w = w' := by
  have k := mul64 (x := 72057594037927936) hN (by decide) hy w
  rw [h1, h2] at k
  exact k
theorem hi_low {x N hi lo : Nat} (hN : 72057594037927936 * x = N) (h : x ≤ 1000000000000) (h1 : N / 18446744073709551616 = hi) (h2 : N % 18446744073709551616 = lo) : hi * 18446744073709551616 + lo = N ∧ hi ≤ x ∧ hi * 256 ≤ x ∧ lo < 18446744073709551616 := by omega
theorem big_q {d hi lo N F : Nat} (d0 : 1 ≤ d) (g : hi * 18446744073709551616 + lo = N) (h : d ≤ hi) (hF : N / d = F) : ¬ F ≤ 4611686018427387904 := by
  have h1 : 18446744073709551616 * d ≤ N := by omega
  have h2 := (Nat.le_div_iff_mul_le (k := d) (x := 18446744073709551616) (y := N) d0).2 h1
  rw [hF] at h2
  omega
set_option maxHeartbeats 1000000 in
/-- d is what remains of all above the threshold. -/
theorem count_ok {n th d F : Nat} (n2 : n ≤ 1000000000000) (hd : th + d = 72057594037927936) (d0 : 1 ≤ d) (hF : 72057594037927936 * n / d = F) (w : World) :
    Calls Tryd.prog 16 #[.int .i64 n, .int .i64 th] w fun e w' => e = .returned (.tuple #[.int .i64 (if F ≤ 4611686018427387904 then (F : Int) else 0), .int .i64 (if F ≤ 4611686018427387904 then 0 else 2)]) ∧ ∃ q, w' = w.drewN q := by
  obtain ⟨N, hN⟩ : ∃ N, 72057594037927936 * n = N := ⟨_, rfl⟩
  obtain ⟨hi, hh⟩ : ∃ hi, N / 18446744073709551616 = hi := ⟨_, rfl⟩
  obtain ⟨lo, hl⟩ : ∃ lo, N % 18446744073709551616 = lo := ⟨_, rfl⟩
  obtain ⟨g1, g2, g3, g4⟩ := hi_low hN (by omega) hh hl
  obtain ⟨R, hR⟩ : ∃ R, N % d = R := ⟨_, rfl⟩
  rw [hN] at hF
  have HD := hide (show isDraw (th : Int) = true from inR_yes (by omega))
  have big : d ≤ hi → ¬ F ≤ 4611686018427387904 := fun h => big_q d0 g1 h hF
  have HN := hide hN
  have HH := hide hh
  have HL := hide hl
  have G1 := hide g1
  have HF := hide hF
  have HR := hide hR
  have b1 : ¬ (n : Int) < 0 := by omega
  have b2 : ¬ (1000000000000 : Int) < (n : Int) := by omega
  have en : IntKind.u64.wrap (n : Int) = (n : Int) := wrapU_id (by omega)
  have es : IntKind.i64.wrap (72057594037927936 - (th : Int)) = (d : Int) := by rw [show (72057594037927936 : Int) - (th : Int) = (d : Int) by omega]; exact IntWalk.i64_in _ (by omega)
  have ed : IntKind.u64.wrap (d : Int) = (d : Int) := wrapU_id (by omega)
  have hdb : d ≤ 72057594037927936 := by omega
  clear hN hh hl g1 hF hR g3 hd
  by_cases hc : d ≤ hi
  · have hx := big hc
    rw [if_neg hx, if_neg hx]
    have c1 : (d : Int) ≤ (hi : Int) := by omega
    clear big hx hc
    go_enter Tryd.func16, Tryd.ntmps16
    go_wp2_with fail
    refine (hnum_is HD.out _).mono ?_
    rintro e w' ⟨rfl, rfl⟩
    go_wp2_with fail
    refine (mulAll HN.out (by omega) HH.out HL.out _).mono ?_
    rintro e w' ⟨rfl, rfl⟩
    go_wp2_with fail
    go_ret2
    exact ⟨rfl, 0, rfl⟩
  · have c1 : ¬ (d : Int) ≤ (hi : Int) := by omega
    have hlt : hi < d := by omega
    have fb : F < 18446744073709551616 := by
      rw [← HF.out]; apply Nat.div_lt_of_lt_mul; rw [← G1.out, Nat.mul_comm]
      omega
    clear big hc
    by_cases hx : F ≤ 4611686018427387904
    · rw [if_pos hx, if_pos hx]
      have c2 : ¬ (4611686018427387904 : Int) < (F : Int) := by omega
      have ew : IntKind.i64.wrap (F : Int) = (F : Int) := IntWalk.i64_in _ (by omega)
      go_enter Tryd.func16, Tryd.ntmps16
      go_wp2_with fail
      refine (hnum_is HD.out _).mono ?_
      rintro e w' ⟨rfl, rfl⟩
      go_wp2_with fail
      refine (mulAll HN.out (by omega) HH.out HL.out _).mono ?_
      rintro e w' ⟨rfl, rfl⟩
      go_wp2_with fail
      refine (div64 G1.out hlt (by omega) g4 _ HF.out HR.out).mono ?_
      rintro e w' ⟨rfl, q, rfl⟩
      go_wp2_with fail
      go_ret2
      exact ⟨rfl, q, rfl⟩
    · rw [if_neg hx, if_neg hx]
      have c2 : (4611686018427387904 : Int) < (F : Int) := by omega
      go_enter Tryd.func16, Tryd.ntmps16
      go_wp2_with fail
      refine (hnum_is HD.out _).mono ?_
      rintro e w' ⟨rfl, rfl⟩
      go_wp2_with fail
      refine (mulAll HN.out (by omega) HH.out HL.out _).mono ?_
      rintro e w' ⟨rfl, rfl⟩
      go_wp2_with fail
      refine (div64 G1.out hlt (by omega) g4 _ HF.out HR.out).mono ?_
      rintro e w' ⟨rfl, q, rfl⟩
      go_wp2_with fail
      go_ret2
      exact ⟨rfl, q, rfl⟩

end Go.Proofs.YtkliebhpdcjdgaaDoor
