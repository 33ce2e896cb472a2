/-
  comb.Ways, comb.ways; culref.Ways: the walks. Conditions: n is at most 30 (comb.Ways: none).
-/
import Derived.Test.YtgejpinepkockaaBin
import Derived.Test.YtgejpinepkockaaClone
import Derived.Test.YtgejpinepkockaaPlain
import Derived.BigRegion
namespace Go.Proofs.Ytgejpinepkockaa
open Go.RowKit

theorem mul30 {b m : Int} (h1 : 0 ≤ b) (h2 : b ≤ 1073741824) (h3 : 0 ≤ m) (h4 : m ≤ 30) : 0 ≤ b * m ∧ b * m ≤ 32212254720 := by
  have h5 : b * m ≤ 1073741824 * m := Int.mul_le_mul_of_nonneg_right h2 h3
  have h6 := Int.mul_nonneg h1 h3
  omega
theorem ways_ok (n k : Nat) (hk : k ≤ n) (hn : n ≤ 30) (w : World) : Calls Try.prog 36 #[.int .i64 n, .int .i64 k] w fun e w' => e = .returned (.tuple #[.int .i64 (bin n k), .int .i64 0]) ∧ w = w' := by
  go_enter Try.func36, Try.ntmps36
  go_wp2_with fail
  go_loop [6, 24] (fun v i => ∃ j : Nat, j ≤ k ∧ i = .int .i64 j ∧ v = .int .i64 (bin n j)) (fun _ i => k - (intOf i).toNat)
  case atStart => exact ⟨0, Nat.zero_le _, rfl, by rw [bin_zero]; rfl⟩
  case round =>
    obtain ⟨j, hj, rfl, rfl⟩ := hrel
    have hb := bin_bound hn j
    by_cases hlt : j < k
    · obtain ⟨m1, m2⟩ := mul30 (b := bin n j) (m := (n : Int) - j) (by omega) (by omega) (by omega) (by omega)
      have hb2 := bin_bound hn (j + 1)
      have e1 : wrap64 ((bin n j : Int) * ((n : Int) - j)) = (bin n j : Int) * ((n : Int) - j) := by unfold wrap64; omega
      go_wp2_with fail
      exact ⟨⟨j + 1, by omega, by go_num, by rw [bin_ediv]⟩, by simp [intOf]; omega⟩
    · obtain rfl : j = k := by omega
      go_wp2_with fail
      go_ret2
      exact ⟨rfl, rfl⟩
theorem ways_no (n k : Int) (h : ¬ (0 ≤ n ∧ n ≤ 30 ∧ 0 ≤ k ∧ k ≤ n)) (w : World) : Calls Try.prog 36 #[.int .i64 n, .int .i64 k] w fun e w' => e = .returned (.tuple #[.int .i64 0, .int .i64 1]) ∧ w = w' := by
  have key : n < 0 ∨ (¬ n < 0 ∧ 30 < n) ∨ (¬ n < 0 ∧ ¬ 30 < n ∧ k < 0) ∨ (¬ n < 0 ∧ ¬ 30 < n ∧ ¬ k < 0 ∧ n < k) := by omega
  clear h
  rcases key with k1 | ⟨k1, k2⟩ | ⟨k1, k2, k3⟩ | ⟨k1, k2, k3, k4⟩
  all_goals
    go_enter Try.func36, Try.ntmps36
    go_wp2_with fail
    go_ret2
    exact ⟨rfl, rfl⟩
theorem way_any (n k : Nat) (hn : n ≤ 30) (w : World) : Calls Try.prog 90 #[.int .i64 n, .int .i64 k] w fun e w' => e = .returned (.int .i64 (bin n k)) ∧ w = w' := by
  by_cases hk : k ≤ n
  · go_enter Try.func90, Try.ntmps90
    go_wp2_with fail
    refine (ways_ok n k hk hn _).mono ?_
    rintro e w1 ⟨rfl, rfl⟩
    go_wp2_with fail
    go_ret
    exact ⟨rfl, rfl⟩
  · rw [bin_none n k (by omega)]
    go_enter Try.func90, Try.ntmps90
    go_wp2_with fail
    refine (ways_no n k (by omega) _).mono ?_
    rintro e w1 ⟨rfl, rfl⟩
    go_wp2_with fail
    go_ret
    exact ⟨rfl, rfl⟩
set_option maxRecDepth 20000 in
theorem rways_any (n k : Nat) (hn : n ≤ 30) (w : World) : Calls Try.prog 41 #[.int .i64 n, .int .i64 k] w fun e w' => e = .returned (.int .i64 (bin n k)) ∧ Below w.heap.size w w' := by
  obtain ⟨m, hm⟩ : ∃ m : Nat, m = n + 2 := ⟨_, rfl⟩
  have em : (n : Int) + 2 = (m : Int) := by omega
  have hs := hide (pasc_start n)
  have hlen : ∀ r j, (pasc n r j).length = m := fun r j => by rw [pasc, rowOf_len, hm]
  rw [← hm] at hs
  have m1 : m ≤ 32 := by omega
  have m2 : n + 2 ≤ m := by omega
  have HM := hide hm; clear hm
  have HC := hide (show (List.replicate m (0 : Int))[0]? = some 0 by rw [List.getElem?_replicate, if_pos (by omega)])
  have hm1 : (0 : Int) < (m : Int) := by omega
  go_enter Try.func41, Try.ntmps41
  go_wp2_with (at_make; refine wpList_make_sl T_int rfl rfl _ _ rfl (by rfl) (by rfl) (by omega) (by simp only [maxLen]; omega) ?_; intro w2 own2 hb2; rw [ints_zero] at own2; have c0 := own2.cell (ints_at HC.out); have f0 := own2.free 0)
  have own3 := own2.set 0 (.int .i64 1)
  rw [← ints_set, hs.out] at own3
  have hb3 : Below w.heap.size w (w2.setCell ⟨w.heap.size, 0, none⟩ (.int .i64 1)) := by repeat' (first | assumption | with_reducible exact Below.refl _ _ | with_reducible apply Below.drew | with_reducible apply below_drewN | with_reducible apply below_alloc | with_reducible refine below_set ?_ ?_ _ | (simp only [World.size_alloc, World.heap_drewN]; omega) | (simp; omega))
  clear c0 f0 own2
  go_loopw [13] (fun i wr => ∃ r : Nat, r ≤ n ∧ i = .int .i64 r ∧ Own wr w.heap.size 3 1 (some ⟨w.heap.size, 0, none⟩) m m (ints (pasc n r n)) ∧ Below w.heap.size w wr) (fun i _ => n - (intOf i).toNat)
  case atStart => exact ⟨0, Nat.zero_le _, rfl, own3, hb3⟩
  case round =>
    obtain ⟨r, hr, rfl, hown, hb⟩ := hrel
    by_cases hlt : r < n
    · go_wp2_with fail
      obtain ⟨wo, rfl⟩ : ∃ wo : World, wo = wr := ⟨_, rfl⟩
      go_loopw [6] (fun i wr => ∃ j : Nat, j ≤ n ∧ i = .int .i64 j ∧ Own wr w.heap.size 3 1 (some ⟨w.heap.size, 0, none⟩) m m (ints (pasc n r j)) ∧ Below w.heap.size w wr) (fun i _ => (intOf i).toNat)
      case atStart => exact ⟨n, Nat.le_refl _, rfl, hown, hb⟩
      case round =>
        clear hown hb
        obtain ⟨j, hj, rfl, hown, hb⟩ := hrel
        by_cases h0 : 0 < j
        · obtain ⟨i, hi⟩ : ∃ i : Nat, j = i + 1 := ⟨j - 1, by omega⟩
          have ei : (j : Int) - 1 = (i : Int) := by omega
          have cj := hown.cell (ints_at (pasc_at (n := n) (r := r) (Nat.le_refl j) hj))
          have ci := hown.cell (ints_at (pasc_at (n := n) (r := r) (j := j) (i := i) (by omega) hj))
          have fj := hown.free j
          have b1 := bin_bound (n := r) (by omega) j
          have b2 := bin_bound (n := r) (by omega) i
          have hown2 := hown.set j (.int .i64 ((bin r j : Int) + (bin r i : Int)))
          rw [← ints_set, show i = j - 1 by omega, pasc_set h0 hj, ← show i = j - 1 by omega] at hown2
          have q1 : (j : Int) < (m : Int) := by omega
          have q2 : (i : Int) < (m : Int) := by omega
          have q3 : (0 : Int) < (j : Int) := by omega
          have hi1 : i ≤ n := by omega
          have hi2 : i < j := by omega
          clear hi
          go_wp2
          go_region
          all_goals go_wp2
          refine ⟨⟨i, by omega, rfl, hown2.drew, by repeat' (first | assumption | with_reducible exact Below.refl _ _ | with_reducible apply Below.drew | with_reducible apply below_drewN | with_reducible apply below_alloc | with_reducible refine below_set ?_ ?_ _ | (simp only [World.size_alloc, World.heap_drewN]; omega) | (simp; omega))⟩, by simp [intOf]; omega⟩
        · obtain rfl : j = 0 := by omega
          go_wp2
          rw [pasc_next] at hown
          exact ⟨⟨r + 1, by omega, by go_num, hown, hb⟩, by simp [intOf]; omega⟩
    · obtain rfl : r = n := by omega
      by_cases hk : k ≤ r
      · have ck := hown.cell (ints_at (pasc_at (n := r) (r := r) (j := r) hk (Nat.le_refl r)))
        have q1 : (k : Int) < (m : Int) := by omega
        go_wp2
        go_ret
        exact ⟨rfl, hb⟩
      · have hz := hide (bin_none r k (by omega))
        go_wp2
        go_ret
        exact ⟨by rw [hz.out]; rfl, hb⟩
end Go.Proofs.Ytgejpinepkockaa
