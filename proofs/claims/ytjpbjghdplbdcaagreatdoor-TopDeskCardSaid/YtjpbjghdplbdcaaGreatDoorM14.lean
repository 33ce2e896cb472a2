/- Proves the parts of the claim that its last text joins: GateP, Gate2, Rd1, Pair. Conditions: those that each theorem names. -/
import Derived.Test.YtjpbjghdplbdcaaGreatDoorM01
import Derived.Test.YtjpbjghdplbdcaaGreatDoorM09
import Derived.Test.YtjpbjghdplbdcaaGreatDoorM04
import Derived.Test.YtjpbjghdplbdcaaGreatDoorM05
import Derived.Deep.SlicePairs
section
namespace Go.Proofs.YtjpbjghdplbdcaaGreatDoor
def ceilOf (a d : Nat) : Nat := a / d + if a % d = 0 then 0 else 1
theorem ceil_le {a d x : Nat} (hd : 0 < d) : ceilOf a d ≤ x ↔ a ≤ x * d := by
  have h1 := Nat.div_add_mod a d
  have h2 := Nat.mod_lt a hd
  unfold ceilOf
  constructor
  · intro h
    by_cases e : a % d = 0
    · rw [if_pos e] at h
      have : a / d * d ≤ x * d := Nat.mul_le_mul_right d (by omega)
      rw [Nat.mul_comm d] at h1
      omega
    · rw [if_neg e] at h
      have : (a / d + 1) * d ≤ x * d := Nat.mul_le_mul_right d h
      rw [Nat.succ_mul] at this
      rw [Nat.mul_comm d] at h1
      omega
  · intro h
    have h3 : a / d ≤ x := Nat.div_le_of_le_mul (by rw [Nat.mul_comm]; exact h)
    by_cases e : a % d = 0
    · rw [if_pos e]; omega
    · rw [if_neg e]
      rcases Nat.lt_or_ge (a / d) x with h4 | h4
      · omega
      · have e2 : a / d = x := by omega
        rw [← e2, Nat.mul_comm] at h
        omega
end Go.Proofs.YtjpbjghdplbdcaaGreatDoor
end
section
namespace Go.Proofs.YtjpbjghdplbdcaaGreatDoor
open Go.RowKit Go.Shelf
theorem mulAll {y N hi lo : Nat} (hN : 72057594037927936 * y = N) (hy : y < 18446744073709551616) (h1 : N / 18446744073709551616 = hi) (h2 : N % 18446744073709551616 = lo) (w : World) :
    Calls Tryz.prog 172 #[.int .u64 72057594037927936, .int .u64 y] w fun e w' => e = .returned (.tuple #[.int .u64 hi, .int .u64 lo]) ∧ w = w' := by
  have k := mul64 (x := 72057594037927936) hN (by decide) hy w
  rw [h1, h2] at k
  exact k
def partBad (num den : Int) : Prop := den < 1 ∨ (¬ den < 1 ∧ 1000000000000 < den) ∨ (¬ den < 1 ∧ ¬ 1000000000000 < den ∧ num < 1) ∨ (¬ den < 1 ∧ ¬ 1000000000000 < den ∧ ¬ num < 1 ∧ den < num)
theorem part_bad {num den : Int} (h : partBad num den) (w : World) : Calls Tryz.prog 104 #[.int .i64 num, .int .i64 den] w fun e w' => e = .returned (.tuple #[.int .i64 0, .int .i64 1]) ∧ w = w' := by
  rcases h with h | ⟨h, h2⟩ | ⟨h, h2, h3⟩ | ⟨h, h2, h3, h4⟩
  all_goals
    go_enter Tryz.func104, Tryz.ntmps104
    go_wp2_with fail
    go_ret2
    exact ⟨rfl, rfl⟩
theorem hi_low {x N hi lo : Nat} (hN : 72057594037927936 * x = N) (h : x ≤ 1000000000000) (h1 : N / 18446744073709551616 = hi) (h2 : N % 18446744073709551616 = lo) : hi * 18446744073709551616 + lo = N ∧ hi ≤ x ∧ hi * 256 ≤ x ∧ lo < 18446744073709551616 := by omega
set_option maxHeartbeats 1000000 in
theorem part_ok {num den C : Nat} (n1 : 1 ≤ num) (n2 : num ≤ den) (n3 : den ≤ 1000000000000) (hC : ceilOf (72057594037927936 * num) den = C) (w : World) :
    Calls Tryz.prog 104 #[.int .i64 num, .int .i64 den] w fun e w' => e = .returned (.tuple #[.int .i64 (72057594037927936 - (C : Int)), .int .i64 0]) ∧ ∃ q, w' = w.drewN q := by
  obtain ⟨N, hN⟩ : ∃ N, 72057594037927936 * num = N := ⟨_, rfl⟩
  obtain ⟨hi, hh⟩ : ∃ hi, N / 18446744073709551616 = hi := ⟨_, rfl⟩
  obtain ⟨lo, hl⟩ : ∃ lo, N % 18446744073709551616 = lo := ⟨_, rfl⟩
  obtain ⟨g1, g2, g3, g4⟩ := hi_low hN (by omega) hh hl
  obtain ⟨A, hA⟩ : ∃ A, N / den = A := ⟨_, rfl⟩
  obtain ⟨R, hR⟩ : ∃ R, N % den = R := ⟨_, rfl⟩
  rw [hN, ceilOf, hA, hR] at hC
  have hAb : A ≤ 72057594037927936 := by
    rw [← hA]; apply Nat.div_le_of_le_mul; rw [← hN, Nat.mul_comm]; exact Nat.mul_le_mul_right _ n2
  have hCb : C ≤ 72057594037927936 := by
    have e : ceilOf N den = C := by rw [ceilOf, hA, hR]; exact hC
    rw [← e, ceil_le (by omega), ← hN]; exact Nat.mul_le_mul_left _ n2
  have HN := hide hN
  have HH := hide hh
  have HL := hide hl
  have G1 := hide g1
  have HA := hide hA
  have HR := hide hR
  have HC := hide hC
  have b1 : ¬ (den : Int) < 1 := by omega
  have b2 : ¬ (1000000000000 : Int) < (den : Int) := by omega
  have b3 : ¬ (num : Int) < 1 := by omega
  have b4 : ¬ (den : Int) < (num : Int) := by omega
  have en : IntKind.u64.wrap (num : Int) = (num : Int) := wrapU_id (by omega)
  have ed : IntKind.u64.wrap (den : Int) = (den : Int) := wrapU_id (by omega)
  have hlt : hi < den := by omega
  clear hN hh hl g1 hA hR g3
  by_cases hr : R = 0
  · have hC2 : A = C := by have := HC.out; rw [if_pos hr] at this; omega
    subst hC2
    have r0 : ¬ (0 : Int) < (R : Int) := by omega
    clear hC
    go_enter Tryz.func104, Tryz.ntmps104
    go_wp2_with fail
    refine (mulAll HN.out (by omega) HH.out HL.out _).mono ?_
    rintro e w' ⟨rfl, rfl⟩
    go_wp2_with fail
    refine (div64 G1.out hlt (by omega) g4 _ HA.out HR.out).mono ?_
    rintro e w' ⟨rfl, q, rfl⟩
    go_wp2_with fail
    go_ret2
    exact ⟨rfl, q, rfl⟩
  · have hC2 : A + 1 = C := by have := HC.out; rw [if_neg hr] at this; exact this
    have r0 : (0 : Int) < (R : Int) := by omega
    have eA : IntKind.u64.wrap ((A : Int) + 1) = (C : Int) := by rw [IntKind.wrap_u64]; omega
    clear hC hC2
    go_enter Tryz.func104, Tryz.ntmps104
    go_wp2_with fail
    refine (mulAll HN.out (by omega) HH.out HL.out _).mono ?_
    rintro e w' ⟨rfl, rfl⟩
    go_wp2_with fail
    refine (div64 G1.out hlt (by omega) g4 _ HA.out HR.out).mono ?_
    rintro e w' ⟨rfl, q, rfl⟩
    go_wp2_with fail
    go_ret2
    exact ⟨rfl, q, rfl⟩

def countBad (n th : Int) : Prop := n < 0 ∨ (¬ n < 0 ∧ 1000000000000 < n) ∨ (¬ n < 0 ∧ ¬ 1000000000000 < n ∧ isDraw th = false)
theorem count_bad {n th : Int} (h : countBad n th) (w : World) : Calls Tryz.prog 106 #[.int .i64 n, .int .i64 th] w fun e w' => e = .returned (.tuple #[.int .i64 0, .int .i64 1]) ∧ w = w' := by
  rcases h with h | ⟨h, h2⟩ | ⟨h, h2, h3⟩
  · go_enter Tryz.func106, Tryz.ntmps106
    go_wp2_with fail
    go_ret2
    exact ⟨rfl, rfl⟩
  · go_enter Tryz.func106, Tryz.ntmps106
    go_wp2_with fail
    go_ret2
    exact ⟨rfl, rfl⟩
  · have H := hide h3
    clear h3
    go_enter Tryz.func106, Tryz.ntmps106
    go_wp2_with fail
    refine (hnum_is H.out _).mono ?_
    rintro e w' ⟨rfl, rfl⟩
    go_wp2_with fail
    go_ret2
    exact ⟨rfl, rfl⟩
theorem big_q {d hi lo N F : Nat} (d0 : 1 ≤ d) (g : hi * 18446744073709551616 + lo = N) (h : d ≤ hi) (hF : N / d = F) : ¬ F ≤ 4611686018427387904 := by
  have h1 : 18446744073709551616 * d ≤ N := by omega
  have h2 := (Nat.le_div_iff_mul_le (k := d) (x := 18446744073709551616) (y := N) d0).2 h1
  rw [hF] at h2
  omega
set_option maxHeartbeats 1000000 in
theorem count_ok {n th d F : Nat} (n2 : n ≤ 1000000000000) (hd : th + d = 72057594037927936) (d0 : 1 ≤ d) (hF : 72057594037927936 * n / d = F) (w : World) :
    Calls Tryz.prog 106 #[.int .i64 n, .int .i64 th] w fun e w' => e = .returned (.tuple #[.int .i64 (if F ≤ 4611686018427387904 then (F : Int) else 0), .int .i64 (if F ≤ 4611686018427387904 then 0 else 2)]) ∧ ∃ q, w' = w.drewN q := by
  obtain ⟨N, hN⟩ : ∃ N, 72057594037927936 * n = N := ⟨_, rfl⟩
  obtain ⟨hi, hh⟩ : ∃ hi, N / 18446744073709551616 = hi := ⟨_, rfl⟩
  obtain ⟨lo, hl⟩ : ∃ lo, N % 18446744073709551616 = lo := ⟨_, rfl⟩
  obtain ⟨g1, g2, g3, g4⟩ := hi_low hN (by omega) hh hl
  obtain ⟨R, hR⟩ : ∃ R, N % d = R := ⟨_, rfl⟩
  rw [hN] at hF
  have HD := hide (show isDraw (th : Int) = true from inR_yes (by omega))
  have big : d ≤ hi → ¬ F ≤ 4611686018427387904 := fun h => big_q d0 g1 h hF
  have HN := hide hN
  have HH := hide hh
  have HL := hide hl
  have G1 := hide g1
  have HF := hide hF
  have HR := hide hR
  have b1 : ¬ (n : Int) < 0 := by omega
  have b2 : ¬ (1000000000000 : Int) < (n : Int) := by omega
  have en : IntKind.u64.wrap (n : Int) = (n : Int) := wrapU_id (by omega)
  have es : IntKind.i64.wrap (72057594037927936 - (th : Int)) = (d : Int) := by rw [show (72057594037927936 : Int) - (th : Int) = (d : Int) by omega]; exact IntWalk.i64_in _ (by omega)
  have ed : IntKind.u64.wrap (d : Int) = (d : Int) := wrapU_id (by omega)
  have hdb : d ≤ 72057594037927936 := by omega
  clear hN hh hl g1 hF hR g3 hd
  by_cases hc : d ≤ hi
  · have hx := big hc
    rw [if_neg hx, if_neg hx]
    have c1 : (d : Int) ≤ (hi : Int) := by omega
    clear big hx hc
    go_enter Tryz.func106, Tryz.ntmps106
    go_wp2_with fail
    refine (hnum_is HD.out _).mono ?_
    rintro e w' ⟨rfl, rfl⟩
    go_wp2_with fail
    refine (mulAll HN.out (by omega) HH.out HL.out _).mono ?_
    rintro e w' ⟨rfl, rfl⟩
    go_wp2_with fail
    go_ret2
    exact ⟨rfl, 0, rfl⟩
  · have c1 : ¬ (d : Int) ≤ (hi : Int) := by omega
    have hlt : hi < d := by omega
    have fb : F < 18446744073709551616 := by
      rw [← HF.out]; apply Nat.div_lt_of_lt_mul; rw [← G1.out, Nat.mul_comm]
      omega
    clear big hc
    by_cases hx : F ≤ 4611686018427387904
    · rw [if_pos hx, if_pos hx]
      have c2 : ¬ (4611686018427387904 : Int) < (F : Int) := by omega
      have ew : IntKind.i64.wrap (F : Int) = (F : Int) := IntWalk.i64_in _ (by omega)
      go_enter Tryz.func106, Tryz.ntmps106
      go_wp2_with fail
      refine (hnum_is HD.out _).mono ?_
      rintro e w' ⟨rfl, rfl⟩
      go_wp2_with fail
      refine (mulAll HN.out (by omega) HH.out HL.out _).mono ?_
      rintro e w' ⟨rfl, rfl⟩
      go_wp2_with fail
      refine (div64 G1.out hlt (by omega) g4 _ HF.out HR.out).mono ?_
      rintro e w' ⟨rfl, q, rfl⟩
      go_wp2_with fail
      go_ret2
      exact ⟨rfl, q, rfl⟩
    · rw [if_neg hx, if_neg hx]
      have c2 : (4611686018427387904 : Int) < (F : Int) := by omega
      go_enter Tryz.func106, Tryz.ntmps106
      go_wp2_with fail
      refine (hnum_is HD.out _).mono ?_
      rintro e w' ⟨rfl, rfl⟩
      go_wp2_with fail
      refine (mulAll HN.out (by omega) HH.out HL.out _).mono ?_
      rintro e w' ⟨rfl, rfl⟩
      go_wp2_with fail
      refine (div64 G1.out hlt (by omega) g4 _ HF.out HR.out).mono ?_
      rintro e w' ⟨rfl, q, rfl⟩
      go_wp2_with fail
      go_ret2
      exact ⟨rfl, q, rfl⟩

end Go.Proofs.YtjpbjghdplbdcaaGreatDoor
end
section
namespace Go.Proofs.YtjpbjghdplbdcaaGreatDoor
open Go.RowKit Go.Shelf
set_option linter.unusedVariables false
def Asked (w : World) (r : Int × List UInt8) (e : Ending) (w' : World) : Prop := Below w.heap.size w w' ∧ ((r.1 = 0 ∧ e = .returned (.string (tx r.2))) ∨ (r.1 ≠ 0 ∧ e = thrown r.1))
def dthV (n : Nat) : List UInt8 × Int := if isDraw n = true then (thS (digs 14 n), 0) else ([], 1)
def thQ (n : Nat) : Int × List UInt8 := ((dthV n).2, [111, 107, 32] ++ (dthV n).1)
def partV (a b : Nat) : Int × Int := if 1 ≤ a ∧ a ≤ b ∧ b ≤ 1000000000000 then (72057594037927936 - (ceilOf (72057594037927936 * a) b : Int), 0) else (0, 1)
def partQ (a b : Nat) : Int × List UInt8 := ((partV a b).2, toldOf [(partV a b).1])
def countV (n th : Nat) : Int × Int := if n ≤ 1000000000000 ∧ th ≤ 72057594037927935 then (if 72057594037927936 * n / (72057594037927936 - th) ≤ 4611686018427387904 then ((72057594037927936 * n / (72057594037927936 - th) : Nat), 0) else (0, 2)) else (0, 1)
def countQ (n th : Nat) : Int × List UInt8 := ((countV n th).2, toldOf [(countV n th).1])
theorem dth_is (n : Nat) {w : World} : Calls Tryz.prog 102 #[.int .i64 n] w fun e w' => e = .returned (.tuple #[.string (tx (dthV n).1), .int .i64 (dthV n).2]) ∧ Below w.heap.size w w' := by
  by_cases hd : isDraw n = true
  · have e1 : dthV n = (thS (digs 14 n), 0) := if_pos hd
    have CT := th_any n hd w
    obtain ⟨T, hT⟩ : ∃ T, thS (digs 14 n) = T := ⟨_, rfl⟩
    rw [hT] at e1 CT
    rw [e1]
    refine CT.mono ?_
    rintro e w' ⟨rfl, q, rfl⟩
    exact ⟨rfl, below_drewN (Below.refl _ _) _⟩
  · have e1 : dthV n = ([], 1) := if_neg hd
    rw [e1]
    refine (th_no (by simpa using hd) w).mono ?_
    rintro e w' ⟨rfl, rfl⟩
    exact ⟨rfl, Below.refl _ _⟩
theorem part_is (a c : Nat) {w : World} : Calls Tryz.prog 104 #[.int .i64 a, .int .i64 c] w fun e w' => e = .returned (.tuple #[.int .i64 (partV a c).1, .int .i64 (partV a c).2]) ∧ Below w.heap.size w w' := by
  unfold partV
  by_cases h : 1 ≤ a ∧ a ≤ c ∧ c ≤ 1000000000000
  · rw [if_pos h]
    refine (part_ok h.1 h.2.1 h.2.2 rfl w).mono ?_
    rintro e w' ⟨rfl, q, rfl⟩
    exact ⟨rfl, below_drewN (Below.refl _ _) _⟩
  · rw [if_neg h]
    refine (part_bad (by unfold partBad; omega) w).mono ?_
    rintro e w' ⟨rfl, rfl⟩
    exact ⟨rfl, Below.refl _ _⟩
theorem count_is (n th : Nat) {w : World} : Calls Tryz.prog 106 #[.int .i64 n, .int .i64 th] w fun e w' => e = .returned (.tuple #[.int .i64 (countV n th).1, .int .i64 (countV n th).2]) ∧ Below w.heap.size w w' := by
  unfold countV
  by_cases h : n ≤ 1000000000000 ∧ th ≤ 72057594037927935
  · rw [if_pos h]
    refine (count_ok (d := 72057594037927936 - th) h.1 (by omega) (by omega) rfl w).mono ?_
    rintro e w' ⟨rfl, q, rfl⟩
    refine ⟨?_, below_drewN (Below.refl _ _) _⟩
    split <;> rfl
  · rw [if_neg h]
    have hb : countBad (n : Int) (th : Int) := by
      by_cases h1 : n ≤ 1000000000000
      · refine .inr (.inr ⟨by omega, by omega, ?_⟩)
        exact decide_eq_false (by omega)
      · exact .inr (.inl ⟨by omega, by omega⟩)
    refine (count_bad hb w).mono ?_
    rintro e w' ⟨rfl, rfl⟩
    exact ⟨rfl, Below.refl _ _⟩
theorem thS_size (l : List UInt8) : (thS l).length ≤ l.length + 1 := by
  unfold thS tz
  have h := (List.dropWhile_sublist (fun c : UInt8 => c == 48) (l := l.reverse)).length_le
  rw [List.length_reverse] at h
  split
  · simp
  · rw [List.length_reverse]; omega
theorem dthV_size (n : Nat) : (dthV n).1.length ≤ 4000000000 := by
  by_cases hd : isDraw n = true
  · have e1 : dthV n = (thS (digs 14 n), 0) := if_pos hd
    have h1 := thS_size (digs 14 n)
    rw [digs_len] at h1
    obtain ⟨T, hT⟩ : ∃ T, thS (digs 14 n) = T := ⟨_, rfl⟩
    rw [hT] at e1 h1
    rw [e1]
    dsimp only
    omega
  · have e1 : dthV n = ([], 1) := if_neg hd
    rw [e1]
    simp
theorem partV_fit (a c : Nat) : I64 (partV a c).1 := by
  unfold partV I64
  split
  · rename_i h
    have h2 : ceilOf (72057594037927936 * a) c ≤ 72057594037927936 := by
      rw [ceil_le (by omega)]
      exact Nat.mul_le_mul_left _ h.2.1
    dsimp only
    omega
  · dsimp only; omega
theorem countV_fit (n th : Nat) : I64 (countV n th).1 := by
  unfold countV I64
  split
  · split
    · rename_i h
      obtain ⟨q, hq⟩ : ∃ q, 72057594037927936 * n / (72057594037927936 - th) = q := ⟨_, rfl⟩
      rw [hq] at h ⊢
      dsimp only
      omega
    · dsimp only; omega
  · dsimp only; omega
section
variable {w : World} {bx b : Nat} {n : Nat}
set_option maxRecDepth 100000 in
set_option maxHeartbeats 3200000 in
theorem read2_any (hL : LibW b w) (hbw : b ≤ w.heap.size)  (bbx : Blk w bx 3 #[.int .i64 (n : Int)]) :
    Calls Tryz.prog 100 #[.pointer (some ⟨bx, 0, none⟩)] w fun e w' => Asked w (thQ n) e w' := by
  have CF := hide (fun w' (hb : Below w.heap.size w w') => dth_is n (w := w'))
  have HV := hide (dthV_size n)
  have HS := hide (show thQ n = ((dthV n).2, [111, 107, 32] ++ (dthV n).1) from rfl)
  rw [HS.out]
  obtain ⟨V, E, hVE⟩ : ∃ V E, dthV n = (V, E) := ⟨_, _, rfl⟩
  rw [hVE] at CF HV ⊢
  dsimp only at CF HV ⊢
  clear hVE HS
  have abx := bbx.at_ (i := 0) (u := .int .i64 (n : Int)) rfl
  have HL := hide hL
  clear hL
  go_enter Tryz.func100, Tryz.ntmps100
  go_wp2_with fail
  refine (CF.out _ (by repeat' (first | assumption | with_reducible exact Below.refl _ _ | with_reducible apply Below.drew | with_reducible apply below_drewN | with_reducible apply below_alloc | with_reducible refine below_set ?_ ?_ _ | (simp only [World.size_alloc, World.heap_drewN]; omega) | (simp; omega)))).mono ?_
  rintro e w1 ⟨rfl, b1⟩
  by_cases h0 : E = 0
  · subst h0
    go_wp2_with fail
    refine (text_ok _ HV.out).mono ?_
    rintro e w2 ⟨rfl, rfl⟩
    go_wp2_with fail
    go_ret
    exact ⟨b1, .inl ⟨rfl, rfl⟩⟩
  · go_wp2_with fail
    refine (text_bad h0).mono ?_
    rintro e w2 ⟨rfl, rfl⟩
    exact ⟨rfl, b1, .inr ⟨h0, rfl⟩⟩
end
section
variable {w : World} {bx by_ b : Nat} {n m : Nat}
set_option maxRecDepth 100000 in
set_option maxHeartbeats 3200000 in
theorem read3_any (hL : LibW b w) (hbw : b ≤ w.heap.size)  (bbx : Blk w bx 3 #[.int .i64 (n : Int)]) (bby_ : Blk w by_ 3 #[.int .i64 (m : Int)]) :
    Calls Tryz.prog 103 #[.pointer (some ⟨bx, 0, none⟩), .pointer (some ⟨by_, 0, none⟩)] w fun e w' => Asked w (partQ n m) e w' := by
  have CF := hide (fun w' (hb : Below w.heap.size w w') => part_is n m (w := w'))
  have HV := hide (partV_fit n m)
  have HS := hide (show partQ n m = ((partV n m).2, toldOf [(partV n m).1]) from rfl)
  rw [HS.out]
  obtain ⟨V, E, hVE⟩ : ∃ V E, partV n m = (V, E) := ⟨_, _, rfl⟩
  rw [hVE] at CF HV ⊢
  dsimp only at CF HV ⊢
  clear hVE HS
  have abx := bbx.at_ (i := 0) (u := .int .i64 (n : Int)) rfl
  have aby_ := bby_.at_ (i := 0) (u := .int .i64 (m : Int)) rfl
  have HL := hide hL
  clear hL
  go_enter Tryz.func103, Tryz.ntmps103
  go_wp2_with fail
  refine (CF.out _ (by repeat' (first | assumption | with_reducible exact Below.refl _ _ | with_reducible apply Below.drew | with_reducible apply below_drewN | with_reducible apply below_alloc | with_reducible refine below_set ?_ ?_ _ | (simp only [World.size_alloc, World.heap_drewN]; omega) | (simp; omega)))).mono ?_
  rintro e w1 ⟨rfl, b1⟩
  by_cases h0 : E = 0
  · subst h0
    go_wp2_with fail
    refine (one_ok (HL.out.on b1 hbw) (by have := b1.size; omega) HV.out).mono ?_
    rintro e w2 ⟨rfl, b2⟩
    go_wp2_with fail
    go_ret
    exact ⟨below_on b1 b2, .inl ⟨rfl, rfl⟩⟩
  · go_wp2_with fail
    refine (one_bad h0).mono ?_
    rintro e w2 ⟨rfl, rfl⟩
    exact ⟨rfl, b1, .inr ⟨h0, rfl⟩⟩
end
section
variable {w : World} {bx by_ b : Nat} {n m : Nat}
set_option maxRecDepth 100000 in
set_option maxHeartbeats 3200000 in
theorem read4_any (hL : LibW b w) (hbw : b ≤ w.heap.size)  (bbx : Blk w bx 3 #[.int .i64 (n : Int)]) (bby_ : Blk w by_ 3 #[.int .i64 (m : Int)]) :
    Calls Tryz.prog 105 #[.pointer (some ⟨bx, 0, none⟩), .pointer (some ⟨by_, 0, none⟩)] w fun e w' => Asked w (countQ n m) e w' := by
  have CF := hide (fun w' (hb : Below w.heap.size w w') => count_is n m (w := w'))
  have HV := hide (countV_fit n m)
  have HS := hide (show countQ n m = ((countV n m).2, toldOf [(countV n m).1]) from rfl)
  rw [HS.out]
  obtain ⟨V, E, hVE⟩ : ∃ V E, countV n m = (V, E) := ⟨_, _, rfl⟩
  rw [hVE] at CF HV ⊢
  dsimp only at CF HV ⊢
  clear hVE HS
  have abx := bbx.at_ (i := 0) (u := .int .i64 (n : Int)) rfl
  have aby_ := bby_.at_ (i := 0) (u := .int .i64 (m : Int)) rfl
  have HL := hide hL
  clear hL
  go_enter Tryz.func105, Tryz.ntmps105
  go_wp2_with fail
  refine (CF.out _ (by repeat' (first | assumption | with_reducible exact Below.refl _ _ | with_reducible apply Below.drew | with_reducible apply below_drewN | with_reducible apply below_alloc | with_reducible refine below_set ?_ ?_ _ | (simp only [World.size_alloc, World.heap_drewN]; omega) | (simp; omega)))).mono ?_
  rintro e w1 ⟨rfl, b1⟩
  by_cases h0 : E = 0
  · subst h0
    go_wp2_with fail
    refine (one_ok (HL.out.on b1 hbw) (by have := b1.size; omega) HV.out).mono ?_
    rintro e w2 ⟨rfl, b2⟩
    go_wp2_with fail
    go_ret
    exact ⟨below_on b1 b2, .inl ⟨rfl, rfl⟩⟩
  · go_wp2_with fail
    refine (one_bad h0).mono ?_
    rintro e w2 ⟨rfl, rfl⟩
    exact ⟨rfl, b1, .inr ⟨h0, rfl⟩⟩
end
end Go.Proofs.YtjpbjghdplbdcaaGreatDoor
end
section
namespace Go.Proofs.YtjpbjghdplbdcaaGreatDoor
open Go.ChangeShapes Go.WideShapes Go.ChangeAt Go.RowKit Go.Deep
abbrev Pr := ByteArray × ByteArray
def prV (p : Pr) : List Value := [.string p.1, .string p.2]
def sps (ps : List Pr) : List Value := ps.flatMap prV
theorem sps_len (ps : List Pr) : (sps ps).length = ps.length * 2 := flat_len (f := prV) (size := 2) (fun _ => rfl) ps
theorem sps_at0 {ps : List Pr} {k : Nat} {p : Pr} (h : ps[k]? = some p) : (sps ps)[k * 2]? = some (.string p.1) :=
  flat_at (f := prV) (size := 2) (fun _ => rfl) (j := 0) (u := .string p.1) h rfl
theorem sps_at1 {ps : List Pr} {k : Nat} {p : Pr} (h : ps[k]? = some p) : (sps ps)[k * 2 + 1]? = some (.string p.2) :=
  flat_at (f := prV) (size := 2) (fun _ => rfl) (j := 1) h rfl
theorem sps_append (a b : List Pr) : sps (a ++ b) = sps a ++ sps b := by simp [sps]
theorem sps_one (ps : List Pr) : ∀ u ∈ sps ps, u.oneCell' = true := by
  intro u hu
  simp only [sps, List.mem_flatMap, prV] at hu
  obtain ⟨p, _, hp⟩ := hu
  simp only [List.mem_cons, List.mem_nil_iff, or_false] at hp
  rcases hp with rfl | rfl <;> rfl
theorem Sl.slen {w : World} {B : Nat} {A : Option Addr} {n c : Nat} {ps : List Pr} (h : Sl w B 2 A n c (sps ps)) : ps.length = n := by have := h.len; rw [sps_len] at this; omega
theorem Sl.scell {w : World} {B : Nat} {A : Option Addr} {n c : Nat} {ps : List Pr} (h : Sl w B 2 A n c (sps ps)) {j : Nat} (hj : j < n) :
    ∃ ad p, A = some ad ∧ ad.block < B ∧ ps[j]? = some p ∧ w.cell? (ad.add (j * 2)) = some (.string p.1) ∧ w.cell? ⟨(ad.add (j * 2)).block, (ad.add (j * 2)).off + 1, none⟩ = some (.string p.2) := by
  have hl := h.slen
  have hx : ps[j]? = some (ps[j]'(by omega)) := List.getElem?_eq_getElem (by omega)
  obtain ⟨ad, e, hb, hc⟩ := h.cell (sps_at0 hx)
  obtain ⟨ad2, e2, _, hc2⟩ := h.cell (sps_at1 hx)
  rw [e] at e2
  injection e2 with e2
  subst e2
  exact ⟨ad, _, e, hb, hx, hc, by rw [← add_add] at hc2; exact hc2⟩
abbrev Sp2 (w : World) (A : Option Addr) (n c : Nat) (ps : List Pr) : Prop := Sl w w.heap.size 2 A n c (sps ps)
section
variable {H : Type} {enc : TypeId × Value → H} {P : Program} {w : World} {base : Nat} {sp : Nat → Bool} {held : Bool}
end
end Go.Proofs.YtjpbjghdplbdcaaGreatDoor
end
