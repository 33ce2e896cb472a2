/-
  culref.Rank: the walk. Condition: the slice reads as a permutation.
-/
import Derived.Test.YtjmkejindmgckaaDigit3
namespace Go.Proofs.Ytjmkejindmgckaa
open Go.RowKit

theorem rr_term {n : Nat} {xs : List Int} (hn : n ≤ 12) (hl : xs.length = n) (h : digTo n xs n = 0) {i : Nat} (hi : i < n) :
    0 ≤ xs.getD i 0 - (lessIn (xs.getD i 0) (xs.take i) : Int) ∧ xs.getD i 0 - (lessIn (xs.getD i 0) (xs.take i) : Int) ≤ 12 ∧
    0 ≤ (xs.getD i 0 - (lessIn (xs.getD i 0) (xs.take i) : Int)) * (fac (n - 1 - i) : Int) ∧ (xs.getD i 0 - (lessIn (xs.getD i 0) (xs.take i) : Int)) * (fac (n - 1 - i) : Int) ≤ 5748019200 := by
  have hf := free_is hl h hi
  have h1 := lessIn_le (xs.getD i 0) (xs.drop (i + 1))
  rw [List.length_drop] at h1
  obtain ⟨f1, f2⟩ := fac_i (k := n - 1 - i) (by omega)
  rw [hf]
  obtain ⟨q, hq⟩ : ∃ q, (lessIn (xs.getD i 0) (xs.drop (i + 1)) : Int) = q := ⟨_, rfl⟩
  have q1 : 0 ≤ q := by omega
  have q2 : q ≤ 12 := by omega
  rw [hq]
  have h3 : q * (fac (n - 1 - i) : Int) ≤ 12 * 479001600 := Int.mul_le_mul q2 f2 (by omega) (by decide)
  have h4 : 0 ≤ q * (fac (n - 1 - i) : Int) := Int.mul_nonneg q1 (by omega)
  omega
theorem rr_small {n : Nat} {xs : List Int} (hn : n ≤ 12) (hl : xs.length = n) (h : digTo n xs n = 0) : ∀ i, i ≤ n → 0 ≤ rrTo n xs i ∧ rrTo n xs i ≤ 5748019200 * (i : Int)
  | 0, _ => by simp [rrTo]
  | i + 1, hi => by
    obtain ⟨h1, h2⟩ := rr_small hn hl h i (by omega)
    obtain ⟨_, _, h3, h4⟩ := rr_term hn hl h (i := i) (by omega)
    rw [rrTo]
    omega
section
variable {A : Option Addr} {n c : Nat} {xs : List Int} {w : World}
set_option maxRecDepth 20000 in
set_option maxHeartbeats 1600000 in
theorem rrank_ok (h : Si w A n c xs) (hn : n ≤ 12) (hok : digTo n xs n = 0) {R : Int} (hR : rrTo n xs n = R) :
    Calls Try.prog 32 #[.slice A n c] w fun e w' => e = .returned (.int .i64 R) ∧ w = w' := by
  have hm := h.len_max
  have hcp := h.cap
  have HL := hide h.ilen
  have HOK := hide hok
  have HR := hide hR
  clear hok hR
  go_enter Try.func32, Try.ntmps32
  go_wp2_with fail
  go_loop [3, 11] (fun o i => ∃ k : Nat, k ≤ n ∧ i = .int .i64 k ∧ o = .int .i64 (rrTo n xs k)) (fun _ i => n - (intOf i).toNat)
  case atStart => exact ⟨0, Nat.zero_le _, rfl, rfl⟩
  case round =>
    obtain ⟨k, hk, rfl, rfl⟩ := hrel
    obtain ⟨r1, r2⟩ := rr_small hn HL.out HOK.out k hk
    by_cases hlt : k < n
    · obtain ⟨ad, x, rfl, hbk, hx, hc⟩ := h.icell hlt
      obtain ⟨t1, t2, t3, t4⟩ := rr_term hn HL.out HOK.out hlt
      have hsm := lessIn_small x xs
      have HS := hide (show rrTo n xs (k + 1) = rrTo n xs k + (x - (lessIn x (xs.take k) : Int)) * (fac (n - 1 - k) : Int) by rw [rrTo, getD_of hx])
      have hall := List.getElem?_eq_some_iff.1 hx
      have hbx := (dig_nodup HL.out HOK.out n (Nat.le_refl _)).2 x (List.mem_of_getElem? (i := k) (by rw [List.getElem?_take_of_lt hlt]; exact hx))
      obtain ⟨x1, x2⟩ := hbx
      rw [getD_of hx] at t1 t2 t3 t4
      clear hx hall
      have HTK := hide (h.itake hk)
      have HF := hide (rfact_any (n - 1 - k) (by omega))
      obtain ⟨f1, f2⟩ := fac_i (k := n - 1 - k) (by omega)
      have ef : (n : Int) - 1 - (k : Int) = ((n - 1 - k : Nat) : Int) := by omega
      go_wp2_with fail
      go_loop [6, 21] (fun o i => ∃ j : Nat, j ≤ k ∧ i = .int .i64 j ∧ o = .int .i64 (x - (lessIn x (xs.take j) : Int))) (fun _ i => k - (intOf i).toNat)
      case atStart => exact ⟨0, Nat.zero_le _, rfl, by simp [lessIn_nil]⟩
      case round =>
        obtain ⟨j, hj, rfl, rfl⟩ := hrel
        obtain ⟨l1, l2⟩ := hsm j
        by_cases hjt : j < k
        · obtain ⟨af, v, eaf, hbv, hv, hcv⟩ := h.icell (show j < n by omega)
          injection eaf with eaf
          subst eaf
          have HV := hide (lessIn_take (x := x) hv)
          clear hv
          obtain ⟨o, ho⟩ : ∃ o, (lessIn x (xs.take j) : Int) = o := ⟨_, rfl⟩
          rw [ho] at l1 l2 HV ⊢
          clear ho
          by_cases hvx : v < x
          · have HN := hide (show x - (lessIn x (xs.take (j + 1)) : Int) = x - o - 1 by rw [HV.out, if_pos hvx]; omega)
            go_wp2_with fail
            go_round
            case rel => exact ⟨j + 1, by omega, by go_num, by rw [HN.out]⟩
            case measure => simp [intOf]; omega
          · have HN := hide (show x - (lessIn x (xs.take (j + 1)) : Int) = x - o by rw [HV.out, if_neg hvx, Int.add_zero])
            go_wp2_with fail
            go_round
            case rel => exact ⟨j + 1, by omega, by go_num, by rw [HN.out]⟩
            case measure => simp [intOf]; omega
        · obtain rfl : j = k := by omega
          obtain ⟨fv, hfv⟩ : ∃ fv, x - (lessIn x (xs.take j) : Int) = fv := ⟨_, rfl⟩
          rw [hfv] at t1 t2 t3 t4 HS ⊢
          clear hfv
          obtain ⟨F, hF⟩ : ∃ F, (fac (n - 1 - j) : Int) = F := ⟨_, rfl⟩
          rw [hF] at t3 t4 HS f1 f2 HF
          clear hF
          obtain ⟨P, hP⟩ : ∃ P, fv * F = P := ⟨_, rfl⟩
          rw [hP] at t3 t4 HS
          obtain ⟨S, hS⟩ : ∃ S, rrTo n xs j = S := ⟨_, rfl⟩
          rw [hS] at r1 r2 HS ⊢
          clear hS
          go_wp2_with (first | (go_at_call 33; refine (HF.out _).mono ?_; rintro e w' ⟨rfl, rfl⟩))
          go_round
          case rel => exact ⟨j + 1, by omega, by go_num, by rw [HS.out]⟩
          case measure => simp [intOf]; omega
    · obtain rfl : k = n := by omega
      go_wp2_with fail
      go_ret
      exact ⟨by rw [HR.out]; rfl, rfl⟩
end
end Go.Proofs.Ytjmkejindmgckaa
