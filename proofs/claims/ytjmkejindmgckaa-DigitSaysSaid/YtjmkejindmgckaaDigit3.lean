/-
  digit.Rank, culref.Rank: the walks. Condition: the slice reads as a list of numbers.
-/
import Derived.Test.YtjmkejindmgckaaDigit2
namespace Go.Proofs.Ytjmkejindmgckaa
open Go.RowKit

theorem digCheck_is {A : Option Addr} {n c : Nat} {xs : List Int} {w : World} (h : Si w A n c xs) {E : Int} (he : digErr n xs = E) :
    Calls Try.prog 31 #[.slice A n c] w fun e w' => e = .returned (.int .i64 E) ∧ Below w.heap.size w w' := by
  have k := digCheck_any h; rw [he] at k; exact k
theorem Sl.tail {w : World} {ad : Addr} {n c m : Nat} {xs : List Int} (h : Si w (some ad) n c xs) (hm : m + 1 ≤ n) (hc : ¬ c = m + 1) : Si w (some ⟨ad.block, ad.off + (m + 1), none⟩) (n - (m + 1)) (c - (m + 1)) (xs.drop (m + 1)) := by
  have k := Sl.cut h (lo := m + 1) (hi := n) hm (Nat.le_refl _)
  rw [if_neg hc] at k
  have e1 : ((ints xs).drop ((m + 1) * 1)).take ((n - (m + 1)) * 1) = ints (xs.drop (m + 1)) := by
    rw [Nat.mul_one, Nat.mul_one, List.take_of_length_le (by rw [List.length_drop, ints_len, h.ilen]; exact Nat.le_refl _)]
    simp [ints, List.map_drop]
  have e2 : (some ad).map (·.add ((m + 1) * 1)) = some (⟨ad.block, ad.off + (m + 1), none⟩ : Addr) := by
    rw [Nat.mul_one, Option.map_some]; simp [Addr.add]
  rw [e1, e2] at k
  exact k
theorem Sl.tail_nil {w : World} {ad : Addr} {n c m : Nat} {xs : List Int} (h : Si w (some ad) n c xs) (e : n = m) : Si w (some ad) (n - m) 0 (xs.drop m) :=
  ⟨by rw [ints_len, List.length_drop, h.ilen]; omega, by omega, by simp [maxLen], (fun h => by cases h), (fun h => by omega)⟩
theorem lessIn_take {x v : Int} {ys : List Int} {j : Nat} (hv : ys[j]? = some v) : (lessIn x (ys.take (j + 1)) : Int) = (lessIn x (ys.take j) : Int) + if v < x then 1 else 0 := by
  rw [List.take_add_one, hv, Option.toList_some, lessIn_snoc]
  split <;> simp
theorem lessIn_small (x : Int) (ys : List Int) (j : Nat) : 0 ≤ (lessIn x (ys.take j) : Int) ∧ (lessIn x (ys.take j) : Int) ≤ j := by
  have h1 := lessIn_le x (ys.take j)
  have h2 : (ys.take j).length ≤ j := by rw [List.length_take]; omega
  omega
section
variable {A : Option Addr} {n c : Nat} {xs : List Int} {w : World}
set_option maxRecDepth 20000 in
set_option maxHeartbeats 1600000 in
theorem rank_bad (h : Si w A n c xs) {E : Int} (he : digErr n xs = E) (h0 : ¬ E = 0) :
    Calls Try.prog 28 #[.slice A n c] w fun e w' => e = .returned (.tuple #[.int .i64 0, .int .i64 E]) ∧ Below w.heap.size w w' := by
  have t1 : (E != 0) = true := by simpa using h0
  have H := hide he
  clear he h0
  go_enter Try.func28, Try.ntmps28
  go_wp2_with fail
  refine (digCheck_is h H.out).mono ?_
  rintro e w1 ⟨rfl, hb1⟩
  go_wp2_with fail
  go_ret2
  exact ⟨rfl, hb1⟩
set_option maxRecDepth 20000 in
set_option maxHeartbeats 1600000 in
theorem rank_ok (h : Si w A n c xs) (he : digErr n xs = 0) :
    Calls Try.prog 28 #[.slice A n c] w fun e w' => e = .returned (.tuple #[.int .i64 (rankTo n xs n), .int .i64 0]) ∧ Below w.heap.size w w' := by
  obtain ⟨g1, g2⟩ := digErr_zero he
  have hm := h.len_max
  have hcp := h.cap
  have hcm := h.max
  have HL := hide h.ilen
  have H := hide he
  clear he g2
  go_enter Try.func28, Try.ntmps28
  go_wp2_with fail
  refine (digCheck_is h H.out).mono ?_
  rintro e w1 ⟨rfl, hb1⟩
  go_wp2_with fail
  go_loop [5, 18] (fun o i => ∃ k : Nat, k ≤ n ∧ i = .int .i64 k ∧ o = .int .i64 (rankTo n xs k)) (fun _ i => n - (intOf i).toNat)
  case atStart => exact ⟨0, Nat.zero_le _, rfl, rfl⟩
  case round =>
    obtain ⟨k, hk, rfl, rfl⟩ := hrel
    obtain ⟨r1, r2⟩ := rank_small g1 HL.out hk
    by_cases hlt : k < n
    · obtain ⟨ad, x, rfl, hbk, hx, hc⟩ := (h.on hb1).icell hlt
      have HX := hide hx
      have hsl := h.on hb1
      clear hx
      go_wp2_with fail
      case' inl h0 =>
        have hs := Sl.tail_nil hsl (show n = k + 1 by omega)
        obtain ⟨ae, rfl⟩ : ∃ ae : Addr, ae = ad := ⟨_, rfl⟩
        have hc0 : c = k + 1 := by assumption
        subst hc0
      case' inr h0 =>
        have hs := Sl.tail hsl (m := k) (by omega) (by assumption)
        obtain ⟨ae, hae⟩ : ∃ ae : Addr, ⟨ad.block, ad.off + (k + 1), none⟩ = ae := ⟨_, rfl⟩
        rw [hae] at hs ⊢
        clear hae
      all_goals
        obtain ⟨t, ht⟩ : ∃ t, n - (k + 1) = t := ⟨_, rfl⟩
        obtain ⟨ys, hys⟩ : ∃ ys, xs.drop (k + 1) = ys := ⟨_, rfl⟩
        rw [ht, hys] at hs
        rw [ht]
        have HYS := hide hys
        have ht12 : t ≤ 12 := by omega
        have htm : t ≤ 9223372036854775807 := by omega
        have HT := hide ht
        clear ht hys
        go_loop [8, 28] (fun o i => ∃ j : Nat, j ≤ t ∧ i = .int .i64 j ∧ o = .int .i64 (lessIn x (ys.take j) : Int)) (fun _ i => t - (intOf i).toNat)
        case atStart => exact ⟨0, Nat.zero_le _, rfl, rfl⟩
        case round =>
          obtain ⟨j, hj, rfl, rfl⟩ := hrel
          obtain ⟨l1, l2⟩ := lessIn_small x ys j
          by_cases hjt : j < t
          · obtain ⟨af, v, eaf, hbv, hv, hcv⟩ := hs.icell hjt
            injection eaf with eaf
            subst eaf
            have HV := hide (lessIn_take (x := x) hv)
            clear hv
            obtain ⟨o, ho⟩ : ∃ o, (lessIn x (ys.take j) : Int) = o := ⟨_, rfl⟩
            rw [ho] at l1 l2 HV ⊢
            clear ho
            by_cases hvx : v < x
            · have HN := hide (show (lessIn x (ys.take (j + 1)) : Int) = o + 1 by rw [HV.out, if_pos hvx])
              go_wp2_with fail
              go_round
              case rel => exact ⟨j + 1, by omega, by go_num, by rw [HN.out]⟩
              case measure => simp [intOf]; omega
            · have HN := hide (show (lessIn x (ys.take (j + 1)) : Int) = o by rw [HV.out, if_neg hvx, Int.add_zero])
              go_wp2_with fail
              go_round
              case rel => exact ⟨j + 1, by omega, by go_num, by rw [HN.out]⟩
              case measure => simp [intOf]; omega
          · obtain rfl : j = t := by omega
            obtain ⟨s1, s2⟩ := rank_small g1 HL.out (show k + 1 ≤ n by omega)
            have HR := hide (show rankTo n xs (k + 1) = rankTo n xs k * ((n : Int) - k) + (lessIn x (ys.take j) : Int) by
              rw [rankTo, getD_of HX.out, HYS.out, List.take_of_length_le (by rw [hs.ilen]; exact Nat.le_refl _)])
            rw [HR.out] at s1 s2
            obtain ⟨o, ho⟩ : ∃ o, (lessIn x (ys.take j) : Int) = o := ⟨_, rfl⟩
            rw [ho] at l1 l2 HR s1 s2 ⊢
            clear ho
            obtain ⟨R, hR⟩ : ∃ R, rankTo n xs k = R := ⟨_, rfl⟩
            rw [hR] at r1 r2 HR s1 s2 ⊢
            clear hR
            go_wp2_with fail
            go_round
            case rel => exact ⟨k + 1, by omega, by go_num, by rw [HR.out]⟩
            case measure => simp [intOf]; omega
    · obtain rfl : k = n := by omega
      go_wp2_with fail
      go_ret2
      exact ⟨rfl, hb1⟩
end
end Go.Proofs.Ytjmkejindmgckaa
