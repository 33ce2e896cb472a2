/-
  comb.Rank, culref.CombRank: the walks. Conditions: the slice reads as a list of numbers; for the second: one that may be.
-/
import Derived.Test.YtgejpinepkockaaComb2
namespace Go.Proofs.Ytgejpinepkockaa
open Go.RowKit

theorem combTo_zero {xs : List Int} : ∀ n, combTo xs n = 0 → ∀ k, k < n → cStep (prevAt xs k) (xs.getD k 0) = 0
  | 0, _, k, hk => by omega
  | n + 1, h, k, hk => by
    rw [combTo] at h
    by_cases e : combTo xs n = 0
    · rw [if_pos e] at h
      by_cases ek : k = n
      · subst ek; exact h
      · exact combTo_zero n e k (by omega)
    · rw [if_neg e] at h; exact absurd h e
theorem cStep_zero {p x : Int} (h : cStep p x = 0) : 0 ≤ x ∧ x ≤ 29 ∧ p < x := by
  unfold cStep at h
  by_cases h1 : x < 0
  · rw [if_pos h1] at h; omega
  · rw [if_neg h1] at h
    by_cases h2 : 29 < x
    · rw [if_pos h2] at h; omega
    · rw [if_neg h2] at h
      by_cases h3 : x ≤ p
      · rw [if_pos h3] at h; omega
      · omega
/-- A row that may be: its numbers lie above their places. -/
theorem combTo_up {xs : List Int} {n : Nat} (h : combTo xs n = 0) : ∀ k, k < n → (k : Int) ≤ xs.getD k 0 ∧ xs.getD k 0 ≤ 29
  | 0, hk => by have := cStep_zero (combTo_zero n h 0 hk); omega
  | k + 1, hk => by
    have h1 := cStep_zero (combTo_zero n h (k + 1) hk)
    have h2 := combTo_up h k (by omega)
    unfold prevAt at h1
    rw [if_neg (by omega), show k + 1 - 1 = k by omega] at h1
    omega
/-- The rank of the first k. -/
def rankTo (xs : List Int) : Nat → Nat
  | 0 => 0
  | k + 1 => rankTo xs k + bin (xs.getD k 0).toNat (k + 1)
theorem rankTo_le {xs : List Int} {n : Nat} (h : combTo xs n = 0) : ∀ k, k ≤ n → rankTo xs k ≤ k * 1073741824
  | 0, _ => by simp [rankTo]
  | k + 1, hk => by
    have h1 := rankTo_le h k (by omega)
    have h2 := combTo_up h k (by omega)
    have h3 := bin_bound (n := (xs.getD k 0).toNat) (by omega) (k + 1)
    rw [rankTo]; omega

set_option maxHeartbeats 1600000 in
theorem rank_bad {A : Option Addr} {n c : Nat} {xs : List Int} {w : World} {E : Int} (h1 : Si w A n c xs) (h : combErr n xs = E) (h0 : ¬ E = 0) :
    Calls Try.prog 37 #[.slice A n c] w fun e w' => e = .returned (.tuple #[.int .i64 0, .int .i64 E]) ∧ Below w.heap.size w w' := by
  have k := combCheck_any A n c xs w h1
  rw [h] at k
  have K := hide k
  have t1 : (E != 0) = true := by simpa using h0
  clear h h0 k
  go_enter Try.func37, Try.ntmps37
  go_wp2_with fail
  refine K.out.mono ?_
  rintro e w1 ⟨rfl, hb1⟩
  go_wp2_with fail
  go_ret2
  exact ⟨rfl, hb1⟩
set_option maxHeartbeats 1600000 in
theorem rank_ok {A : Option Addr} {n c : Nat} {xs : List Int} {w : World} (h1 : Si w A n c xs) (h : combErr n xs = 0) :
    Calls Try.prog 37 #[.slice A n c] w fun e w' => e = .returned (.tuple #[.int .i64 (rankTo xs n), .int .i64 0]) ∧ Below w.heap.size w w' := by
  have k := combCheck_any A n c xs w h1
  rw [h] at k
  have K := hide k
  have hm1 := h1.len_max
  have g1 : n ≤ 30 := by
    by_cases g : 30 < n
    · rw [combErr_big g] at h; omega
    · omega
  rw [combErr_small (by omega)] at h
  have HC := hide h
  clear h k
  go_enter Try.func37, Try.ntmps37
  go_wp2_with fail
  refine K.out.mono ?_
  rintro e w1 ⟨rfl, hb1⟩
  go_wp2_with fail
  go_loopw [5, 15] (fun v i wr => ∃ k : Nat, k ≤ n ∧ i = .int .i64 k ∧ v = .int .i64 (rankTo xs k) ∧ Below w.heap.size w wr) (fun _ i _ => n - (intOf i).toNat)
  case atStart => exact ⟨0, Nat.zero_le _, rfl, rfl, hb1⟩
  case round =>
    obtain ⟨k, hk, rfl, rfl, hb⟩ := hrel
    by_cases hlt : k < n
    · obtain ⟨ad, x, rfl, hbb, hx, hc⟩ := (h1.on hb).icell hlt
      have hu := combTo_up HC.out k hlt
      have hr := rankTo_le HC.out k hk
      rw [getD_of hx] at hu
      obtain ⟨u1, u2⟩ := hu
      obtain ⟨xn, rfl⟩ := Int.eq_ofNat_of_zero_le (show 0 ≤ x by omega)
      have hxn : xn ≤ 29 := by omega
      have hbn := bin_bound (n := xn) (by omega) (k + 1)
      have HN := hide (show rankTo xs (k + 1) = rankTo xs k + bin xn (k + 1) by rw [rankTo, getD_of hx, Int.toNat_natCast])
      clear hx
      go_wp2_with fail
      refine (way_any xn (k + 1) (by omega) _).mono ?_
      rintro e w2 ⟨rfl, rfl⟩
      go_wp2_with fail
      refine ⟨⟨k + 1, by omega, by go_num, by rw [HN.out]; go_num, hb⟩, by simp [intOf]; omega⟩
    · obtain rfl : k = n := by omega
      go_wp2_with fail
      go_ret2
      exact ⟨rfl, hb⟩
set_option maxRecDepth 20000 in
set_option maxHeartbeats 1600000 in
theorem crank_to {xs : List Int} {N : Nat} (hN : N ≤ 30) (hC : combTo xs N = 0) : ∀ m, m ≤ N → ∀ (A : Option Addr) (c : Nat) (w : World), Si w A m c (xs.take m) →
    Calls Try.prog 42 #[.slice A m c] w fun e w' => e = .returned (.int .i64 (rankTo xs m)) ∧ Below w.heap.size w w' := by
  intro m
  induction m with
  | zero =>
    intro _ A c w h1
    go_enter Try.func42, Try.ntmps42
    go_wp2_with fail
    go_ret
    exact ⟨rfl, Below.refl _ _⟩
  | succ m ih =>
    intro hm A c w h1
    have hm1 := h1.len_max
    obtain ⟨ad, x, rfl, hbb, hx, hc⟩ := h1.icell (j := m) (by omega)
    have hx' : xs[m]? = some x := by rw [List.getElem?_take] at hx; simpa using hx
    have hu := combTo_up hC m (by omega)
    have hr := rankTo_le hC m (by omega)
    rw [getD_of hx'] at hu
    obtain ⟨u1, u2⟩ := hu
    obtain ⟨xn, rfl⟩ := Int.eq_ofNat_of_zero_le (show 0 ≤ x by omega)
    have u3 : m ≤ xn := by omega
    have u4 : xn ≤ 29 := by omega
    have h2 := h1.itake (hi := m) (by omega)
    rw [List.take_take, show min m (m + 1) = m by omega] at h2
    have K := hide (ih (by omega) (some ad) c w h2)
    have HN := hide (show rankTo xs (m + 1) = rankTo xs m + bin xn (m + 1) by rw [rankTo, getD_of hx', Int.toNat_natCast])
    have e1 : ((m + 1 : Nat) : Int) - 1 = (m : Int) := by omega
    have hcap := h1.cap
    have q1 : (m : Int) ≤ (c : Int) := by omega
    have q0 : ((m : Int) + 1 == 0) = false := by simp; omega
    have q2 : (m : Int) < (m : Int) + 1 := by omega
    clear hx hx' ih hcap
    go_enter Try.func42, Try.ntmps42
    go_wp2_with fail
    refine K.out.mono ?_
    rintro e w1 ⟨rfl, hb1⟩
    go_wp2_with fail
    go_loopw [4, 5] (fun v i wr => ∃ y : Nat, m ≤ y ∧ y ≤ xn ∧ i = .int .i64 y ∧ v = .int .i64 ((rankTo xs m + bin y (m + 1) : Nat) : Int) ∧ Below w.heap.size w wr) (fun _ i _ => xn - (intOf i).toNat)
    case atStart => exact ⟨m, Nat.le_refl _, u3, rfl, by rw [bin_none m (m + 1) (by omega)]; rfl, hb1⟩
    case round =>
      obtain ⟨y, hy1, hy2, rfl, rfl, hb⟩ := hrel
      have hcw := (keep_cell hbb hc hb).2
      have b1 := bin_bound (n := y) (by omega) (m + 1)
      have b2 := bin_bound (n := y) (by omega) m
      by_cases hlt : y < xn
      · go_wp2_with fail
        refine (rways_any y m (by omega) _).mono ?_
        rintro e w2 ⟨rfl, hb2⟩
        have hb3 : Below w.heap.size w w2 := below_on hb hb2
        go_wp2_with fail
        refine ⟨⟨y + 1, by omega, by omega, by go_num, by rw [bin_next]; go_num, hb3⟩, by simp [intOf]; omega⟩
      · obtain rfl : y = xn := by omega
        go_wp2_with fail
        go_ret
        exact ⟨by rw [HN.out]; rfl, hb⟩
theorem crank_any {A : Option Addr} {n c : Nat} {xs : List Int} {w : World} (h1 : Si w A n c xs) (h : combErr n xs = 0) :
    Calls Try.prog 42 #[.slice A n c] w fun e w' => e = .returned (.int .i64 (rankTo xs n)) ∧ Below w.heap.size w w' := by
  have g1 : n ≤ 30 := by
    by_cases g : 30 < n
    · rw [combErr_big g] at h; omega
    · omega
  rw [combErr_small (by omega)] at h
  refine crank_to g1 h n (Nat.le_refl _) A c w ?_
  rw [List.take_of_length_le (by rw [h1.ilen]; exact Nat.le_refl _)]
  exact h1
end Go.Proofs.Ytgejpinepkockaa
