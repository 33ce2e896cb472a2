/-
  culref.Level, Part, Many: the walks. Conditions: those that each names.
-/
import Derived.Test.YtjmkejindmgckaaGate2
namespace Go.Proofs.Ytjmkejindmgckaa
open Go.RowKit

theorem i64_or_nat {a b : Nat} (h : a ||| b < 9223372036854775808) (ha : a < 9223372036854775808) (hb : b < 9223372036854775808) : bits .or .i64 (a : Int) (b : Int) = ((a ||| b : Nat) : Int) := by
  have h1 : (BitVec.ofInt 64 (a : Int)).toNat = a := by rw [BitVec.ofInt_natCast, BitVec.toNat_ofNat]; exact Nat.mod_eq_of_lt (by omega)
  have h2 : (BitVec.ofInt 64 (b : Int)).toNat = b := by rw [BitVec.ofInt_natCast, BitVec.toNat_ofNat]; exact Nat.mod_eq_of_lt (by omega)
  show IntKind.i64.wrap ((BitVec.ofInt 64 (a : Int) ||| BitVec.ofInt 64 (b : Int)).toNat : Int) = _
  rw [BitVec.toNat_or, h1, h2]
  exact IntWalk.i64_in _ (by omega)
theorem less_all {a b d : Nat} {V : Bool} (ha : a < 9223372036854775808) (hb : b < 9223372036854775808) (hd : d < 9223372036854775808) (hV : decide (a * b < 72057594037927936 * d) = V) (w : World) :
    Calls Try.prog 87 #[.int .i64 a, .int .i64 b, .int .i64 72057594037927936, .int .i64 d] w fun e w' => e = .returned (.bool V) ∧ w = w' := less_ok (c := 72057594037927936) ha hb (by decide) hd hV w
theorem less_all2 {b c d : Nat} {V : Bool} (hb : b < 9223372036854775808) (hc : c < 9223372036854775808) (hd : d < 9223372036854775808) (hV : decide (72057594037927936 * b < c * d) = V) (w : World) :
    Calls Try.prog 87 #[.int .i64 72057594037927936, .int .i64 b, .int .i64 c, .int .i64 d] w fun e w' => e = .returned (.bool V) ∧ w = w' := less_ok (a := 72057594037927936) (by decide) hb hc hd hV w
theorem less_all3 {b d : Nat} {V : Bool} (hb : b < 9223372036854775808) (hd : d < 9223372036854775808) (hV : decide (72057594037927936 * b < 4611686018427387905 * d) = V) (w : World) :
    Calls Try.prog 87 #[.int .i64 72057594037927936, .int .i64 b, .int .i64 4611686018427387905, .int .i64 d] w fun e w' => e = .returned (.bool V) ∧ w = w' := less_ok (a := 72057594037927936) (c := 4611686018427387905) (by decide) hb (by decide) hd hV w
theorem partTo_bits (C B : Nat) : ∀ k, k ≤ B + 1 → 2 ^ (B + 1 - k) ∣ partTo C B k ∧ partTo C B k + 2 ^ (B + 1 - k) ≤ 2 ^ (B + 1)
  | 0, _ => by simp [partTo]
  | k + 1, hk => by
    obtain ⟨h3, h4⟩ := partTo_bits C B k (by omega)
    have e : B + 1 - k = (B - k) + 1 := by omega
    have e2 : B + 1 - (k + 1) = B - k := by omega
    rw [e, Nat.pow_succ] at h3 h4
    rw [e2, partTo, partStep]
    obtain ⟨q, hq⟩ := h3
    split
    · exact ⟨⟨q * 2 + 1, by rw [Nat.mul_add, Nat.mul_one, ← Nat.mul_assoc, Nat.mul_right_comm, ← hq]⟩, by omega⟩
    · exact ⟨⟨q * 2, by rw [← Nat.mul_assoc, Nat.mul_right_comm, ← hq]⟩, by omega⟩

set_option maxHeartbeats 1000000 in
theorem rlevel_ok {k D : Nat} (h : k ≤ 20) (hD : 72057594037927936 / 2 ^ k = D) (w : World) : Calls Try.prog 55 #[.int .i64 k] w fun e w' => e = .returned (.int .i64 (72057594037927936 - (D : Int))) ∧ w = w' := by
  have HD := hide hD
  clear hD
  go_enter Try.func55, Try.ntmps55
  go_wp2_with fail
  go_loopw [3, 5] (fun v i wr => ∃ (j X : Nat), j ≤ k ∧ i = .int .i64 j ∧ v = .int .i64 X ∧ 72057594037927936 / 2 ^ j = X ∧ w = wr) (fun _ i _ => k - (intOf i).toNat)
  case atStart => exact ⟨0, 72057594037927936, Nat.zero_le _, rfl, rfl, rfl, rfl⟩
  case round =>
    obtain ⟨j, X, hj, rfl, rfl, hX, rfl⟩ := hrel
    have hXb : X ≤ 72057594037927936 := by rw [← hX]; exact Nat.div_le_self _ _
    have HX := hide hX
    clear hX
    by_cases hlt : j < k
    · obtain ⟨Y, hY⟩ : ∃ Y, X / 2 = Y := ⟨_, rfl⟩
      have eY : (X : Int).tdiv 2 = (Y : Int) := by rw [Int.tdiv_eq_ediv_of_nonneg (by omega)]; omega
      have HY := hide (show 72057594037927936 / 2 ^ (j + 1) = Y by rw [Nat.pow_succ, ← Nat.div_div_eq_div_mul, HX.out, hY])
      have hYb : Y ≤ 72057594037927936 := by omega
      clear hY
      go_wp2_with fail
      go_roundw
      case rel => exact ⟨j + 1, Y, by omega, by go_num, rfl, HY.out, by trivial⟩
      case measure => simp [intOf]; omega
    · obtain rfl : j = k := by omega
      obtain rfl : X = D := by rw [← HX.out, HD.out]
      go_wp2_with fail
      go_ret
      exact ⟨rfl, rfl⟩

set_option maxHeartbeats 1000000 in
theorem rpart_ok {num den C : Nat} (n1 : 1 ≤ num) (n2 : num ≤ den) (n3 : den ≤ 1000000000000) (hC : ceilOf (72057594037927936 * num) den = C) (w : World) :
    Calls Try.prog 56 #[.int .i64 num, .int .i64 den] w fun e w' => e = .returned (.int .i64 (72057594037927936 - (C : Int))) ∧ w = w' := by
  have hCb : C ≤ 72057594037927936 := by rw [← hC, ceil_le (by omega)]; exact Nat.mul_le_mul_left _ n2
  have HC := hide hC
  have HALL := hide (show partTo C 56 57 = C from partTo_all (by omega))
  clear hC
  go_enter Try.func56, Try.ntmps56
  go_wp2_with fail
  go_loopw [5, 6] (fun v i wr => ∃ (k f : Nat), k ≤ 57 ∧ i = .int .i64 (56 - (k : Int)) ∧ v = .int .i64 f ∧ partTo C 56 k = f ∧ w = wr) (fun _ i _ => (intOf i + 1).toNat)
  case atStart => exact ⟨0, 0, by omega, rfl, rfl, rfl, rfl⟩
  case round =>
    obtain ⟨k, f, hk, rfl, rfl, hf, rfl⟩ := hrel
    have HF := hide hf
    clear hf
    by_cases hlt : k < 57
    · obtain ⟨b, hb⟩ : ∃ b : Nat, (56 : Int) - (k : Int) = (b : Int) := ⟨56 - k, by omega⟩
      have hb2 : 56 - k = b := by omega
      rw [hb]
      obtain ⟨d1, d2⟩ := partTo_bits C 56 k (by omega)
      rw [HF.out, show 56 + 1 - k = b + 1 by omega, Nat.pow_succ] at d2
      obtain ⟨P, hP⟩ : ∃ P, 2 ^ b = P := ⟨_, rfl⟩
      rw [hP] at d2
      have hP1 : 1 ≤ P := by rw [← hP]; exact Nat.one_le_two_pow
      have ms : min b 64 = b := by omega
      have eP : IntKind.i64.wrap ((2 : Int) ^ b) = (P : Int) := by rw [show (2 : Int) ^ b = (P : Int) by rw [← hP, Int.natCast_pow]; rfl]; exact IntWalk.i64_in _ (by omega)
      have hfP : f + P ≤ 144115188075855872 := by omega
      obtain ⟨S, hS⟩ : ∃ S, f + P = S := ⟨_, rfl⟩
      obtain ⟨S1, hS1⟩ : ∃ S1, f + P - 1 = S1 := ⟨_, rfl⟩
      have eS : IntKind.i64.wrap ((f : Int) + (P : Int)) = (S : Int) := by rw [show (f : Int) + (P : Int) = (S : Int) by omega]; exact IntWalk.i64_in _ (by omega)
      have eS1 : IntKind.i64.wrap ((S : Int) - 1) = (S1 : Int) := by rw [show (S : Int) - 1 = (S1 : Int) by omega]; exact IntWalk.i64_in _ (by omega)
      have key : S1 * den < 72057594037927936 * num ↔ S ≤ C := by rw [← ceil_gt (by omega), HC.out]; omega
      have hstep : partTo C 56 (k + 1) = if S ≤ C then S else f := by rw [partTo, partStep, HF.out, hb2, hP, hS]
      have HST := hide hstep
      clear hstep d1 hP
      by_cases hle : S ≤ C
      · have hV : decide (S1 * den < 72057594037927936 * num) = true := by simp only [decide_eq_true_eq]; exact key.2 hle
        have HV := hide hV
        have HN := hide (show partTo C 56 (k + 1) = S by rw [HST.out, if_pos hle])
        clear hV key
        go_wp2_with fail
        refine (less_all (by omega) (by omega) (by omega) HV.out _).mono ?_
        rintro e w' ⟨rfl, rfl⟩
        go_wp2_with fail
        go_roundw
        case rel => exact ⟨k + 1, S, by omega, congrArg _ (by omega), rfl, HN.out, by trivial⟩
        case measure => simp [intOf] <;> omega
      · have hV : decide (S1 * den < 72057594037927936 * num) = false := by rw [decide_eq_false_iff_not]; exact fun h => hle (key.1 h)
        have HV := hide hV
        have HN := hide (show partTo C 56 (k + 1) = f by rw [HST.out, if_neg hle])
        clear hV key
        go_wp2_with fail
        refine (less_all (by omega) (by omega) (by omega) HV.out _).mono ?_
        rintro e w' ⟨rfl, rfl⟩
        go_wp2_with fail
        go_roundw
        case rel => exact ⟨k + 1, f, by omega, congrArg _ (by omega), rfl, HN.out, by trivial⟩
        case measure => simp [intOf] <;> omega
    · obtain rfl : k = 57 := by omega
      obtain rfl : f = C := by rw [← HF.out, HALL.out]
      go_wp2_with fail
      go_ret
      exact ⟨rfl, rfl⟩

set_option maxHeartbeats 1000000 in
theorem rmany_ok {n th d F : Nat} (n2 : n ≤ 1000000000000) (hd : th + d = 72057594037927936) (d0 : 1 ≤ d) (hF : 72057594037927936 * n / d = F) (w : World) :
    Calls Try.prog 57 #[.int .i64 n, .int .i64 th] w fun e w' => e = .returned (.int .i64 (if F ≤ 4611686018427387904 then (F : Int) else -1)) ∧ w = w' := by
  have cmp : ∀ X, ¬ 72057594037927936 * n < X * d ↔ X ≤ F := fun X => by rw [← hF, Nat.le_div_iff_mul_le (show 0 < d from d0)]; omega
  have CMP := hide cmp
  have HALL := hide (fun h : F ≤ 4611686018427387904 => show partTo F 62 63 = F from partTo_all (by omega))
  have es : IntKind.i64.wrap (72057594037927936 - (th : Int)) = (d : Int) := by rw [show (72057594037927936 : Int) - (th : Int) = (d : Int) by omega]; exact IntWalk.i64_in _ (by omega)
  have hdb : d ≤ 72057594037927936 := by omega
  clear hF cmp hd
  go_enter Try.func57, Try.ntmps57
  go_wp2_with fail
  go_loopw [5, 6] (fun v i wr => ∃ (k f : Nat), k ≤ 63 ∧ i = .int .i64 (62 - (k : Int)) ∧ v = .int .i64 f ∧ partTo F 62 k = f ∧ w = wr) (fun _ i _ => (intOf i + 1).toNat)
  case atStart => exact ⟨0, 0, by omega, rfl, rfl, rfl, rfl⟩
  case round =>
    obtain ⟨k, f, hk, rfl, rfl, hf, rfl⟩ := hrel
    have HF := hide hf
    clear hf
    by_cases hlt : k < 63
    · obtain ⟨b, hb⟩ : ∃ b : Nat, (62 : Int) - (k : Int) = (b : Int) := ⟨62 - k, by omega⟩
      have hb2 : 62 - k = b := by omega
      rw [hb]
      obtain ⟨d1, d2⟩ := partTo_bits F 62 k (by omega)
      rw [HF.out, show 62 + 1 - k = b + 1 by omega] at d1 d2
      have hor := or_bit d1
      rw [Nat.pow_succ] at d2
      obtain ⟨P, hP⟩ : ∃ P, 2 ^ b = P := ⟨_, rfl⟩
      rw [hP] at d2 hor
      have hP1 : 1 ≤ P := by rw [← hP]; exact Nat.one_le_two_pow
      have ms : min b 64 = b := by omega
      have hfP : f + P < 9223372036854775808 := by omega
      have eP : IntKind.i64.wrap ((2 : Int) ^ b) = (P : Int) := by rw [show (2 : Int) ^ b = (P : Int) by rw [← hP, Int.natCast_pow]; rfl]; exact IntWalk.i64_in _ (by omega)
      obtain ⟨S, hS⟩ : ∃ S, f + P = S := ⟨_, rfl⟩
      have eS : bits .or .i64 (f : Int) (P : Int) = (S : Int) := by rw [i64_or_nat (by omega) (by omega) (by omega), hor, hS]
      have hstep : partTo F 62 (k + 1) = if S ≤ F then S else f := by rw [partTo, partStep, HF.out, hb2, hP, hS]
      have HST := hide hstep
      have hSb : S < 9223372036854775808 := by omega
      have key := CMP.out S
      clear hstep d1 hP hor d2 hS hfP
      by_cases hle : S ≤ F
      · have HV := hide (show decide (72057594037927936 * n < S * d) = false by rw [decide_eq_false_iff_not]; exact key.2 hle)
        have HN := hide (show partTo F 62 (k + 1) = S by rw [HST.out, if_pos hle])
        clear key hle
        go_wp2_with fail
        refine (less_all2 (by omega) hSb (by omega) HV.out _).mono ?_
        rintro e w' ⟨rfl, rfl⟩
        go_wp2_with fail
        go_roundw
        case rel => exact ⟨k + 1, S, by omega, congrArg _ (by omega), rfl, HN.out, by trivial⟩
        case measure => simp [intOf] <;> omega
      · have HV := hide (show decide (72057594037927936 * n < S * d) = true by rw [decide_eq_true_eq]; exact Decidable.byContradiction fun h => hle (key.1 h))
        have HN := hide (show partTo F 62 (k + 1) = f by rw [HST.out, if_neg hle])
        clear key hle
        go_wp2_with fail
        refine (less_all2 (by omega) hSb (by omega) HV.out _).mono ?_
        rintro e w' ⟨rfl, rfl⟩
        go_wp2_with fail
        go_roundw
        case rel => exact ⟨k + 1, f, by omega, congrArg _ (by omega), rfl, HN.out, by trivial⟩
        case measure => simp [intOf] <;> omega
    · obtain rfl : k = 63 := by omega
      have key := CMP.out 4611686018427387905
      by_cases hle : F ≤ 4611686018427387904
      · obtain rfl : f = F := by rw [← HF.out, HALL.out hle]
        have HV := hide (show decide (72057594037927936 * n < 4611686018427387905 * d) = true by rw [decide_eq_true_eq]; exact Decidable.byContradiction fun h => by have := key.1 h; omega)
        have HLE := hide hle
        clear key hle
        go_wp2_with fail
        refine (less_all3 (by omega) (by omega) HV.out _).mono ?_
        rintro e w' ⟨rfl, rfl⟩
        go_wp2_with fail
        go_ret
        exact ⟨by first | rfl | (rw [if_pos HLE.out]; rfl), rfl⟩
      · have HV := hide (show decide (72057594037927936 * n < 4611686018427387905 * d) = false by rw [decide_eq_false_iff_not]; exact key.2 (by omega))
        have HLE := hide hle
        clear key hle
        go_wp2_with fail
        refine (less_all3 (by omega) (by omega) HV.out _).mono ?_
        rintro e w' ⟨rfl, rfl⟩
        go_wp2_with fail
        go_ret
        exact ⟨by first | rfl | (rw [if_neg HLE.out]; rfl), rfl⟩
end Go.Proofs.Ytjmkejindmgckaa
