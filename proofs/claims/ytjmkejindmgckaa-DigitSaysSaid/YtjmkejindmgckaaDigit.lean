/-
  slices.Contains at []int, digit.Check and culref.Order: the walks. Condition: the slice reads as a list of numbers.
-/
import Derived.Test.YtjmkejindmgckaaBools
import Derived.Test.YtjmkejindmgckaaDigitP
import Derived.Test.YtjmkejindmgckaaWithin
import Derived.Test.YtjmkejindmgckaaApp
import Derived.Test.YtjmkejindmgckaaOpen2
import Derived.RegionTactic
import Derived.BigRegion
namespace Go.Proofs.Ytjmkejindmgckaa
open Go.RowKit

theorem in_next {xs : List Int} {k : Nat} {x v : Int} (h : ¬ x ∈ xs.take k) (hv : xs[k]? = some v) (hne : ¬ x = v) : ¬ x ∈ xs.take (k + 1) := by
  rw [List.take_add_one, hv]
  simp [h, hne]
def IdxQ (x : Int) (xs : List Int) (i : Int) : Prop := (x ∈ xs ∧ 0 ≤ i) ∨ (¬ x ∈ xs ∧ i = -1)
section
variable {A : Option Addr} {n c : Nat} {xs : List Int} {w : World}
set_option maxHeartbeats 800000 in
theorem index_ints (h : Si w A n c xs) (x : Int) :
    Calls Try.prog 96 #[.slice A n c, .int .i64 x] w fun e w' => ∃ i : Int, e = .returned (.int .i64 i) ∧ IdxQ x xs i ∧ w = w' := by
  have hm := h.len_max
  have HL := hide h.ilen
  go_enter Try.func96, Try.ntmps96
  go_wp2_with fail
  go_loop [8] (fun i => ∃ k : Nat, k ≤ n ∧ i = .int .i64 k ∧ ¬ x ∈ xs.take k) (fun i => n - (intOf i).toNat)
  case atStart => exact ⟨0, Nat.zero_le _, rfl, by simp⟩
  case round =>
    obtain ⟨k, hk, rfl, hno⟩ := hrel
    have HNO := hide hno
    clear hno
    by_cases hlt : k < n
    · obtain ⟨ad, v, rfl, hb, hx, hc⟩ := h.icell hlt
      have HX := hide hx
      clear hx
      by_cases e : x = v
      · have t1 : (x == v) = true := by simp [e]
        have HE := hide e
        clear e
        go_wp2_with fail
        go_ret
        exact ⟨(k : Int), rfl, .inl ⟨by rw [HE.out]; exact List.mem_of_getElem? HX.out, by omega⟩, rfl⟩
      · have t1 : (x == v) = false := by simp [e]
        have HE := hide e
        clear e
        go_wp2_with fail
        go_round
        case rel => exact ⟨k + 1, by omega, by go_num, in_next HNO.out HX.out HE.out⟩
        case measure => simp [intOf]; omega
    · obtain rfl : k = n := by omega
      go_wp2_with fail
      go_ret
      exact ⟨-1, rfl, .inr ⟨by have := HNO.out; rwa [List.take_of_length_le (by rw [HL.out]; exact Nat.le_refl _)] at this, rfl⟩, rfl⟩
set_option maxHeartbeats 800000 in
theorem contains_ints (h : Si w A n c xs) (x : Int) (b : Bool) (hb : b = decide (x ∈ xs)) :
    Calls Try.prog 75 #[.slice A n c, .int .i64 x] w fun e w' => e = .returned (.bool b) ∧ w = w' := by
  have HI := hide (index_ints h x)
  have HB := hide hb
  clear hb
  go_enter Try.func75, Try.ntmps75
  go_wp2_with fail
  refine HI.out.mono ?_
  rintro e w' ⟨i, rfl, hi, rfl⟩
  have HJ := hide hi
  clear hi
  by_cases hm : x ∈ xs
  · have t1 : 0 ≤ i := by
      rcases HJ.out with h1 | h1
      · exact h1.2
      · exact absurd hm h1.1
    have t2 : b = true := by rw [HB.out]; exact decide_eq_true hm
    clear hm
    go_wp2_with fail
    go_ret
    exact ⟨by rw [t2]; rfl, rfl⟩
  · have t1 : i = -1 := by
      rcases HJ.out with h1 | h1
      · exact absurd h1.1 hm
      · exact h1.2
    have t2 : b = false := by rw [HB.out]; exact decide_eq_false hm
    clear hm
    subst t1
    go_wp2_with fail
    go_ret
    exact ⟨by rw [t2]; rfl, rfl⟩
set_option maxRecDepth 20000 in
set_option maxHeartbeats 1600000 in
theorem digCheck_any (h : Si w A n c xs) :
    Calls Try.prog 31 #[.slice A n c] w fun e w' => e = .returned (.int .i64 (digErr n xs)) ∧ Below w.heap.size w w' := by
  have hm := h.len_max
  have HL := hide h.ilen
  by_cases g1 : 12 < n
  · have E := hide (digErr_big (xs := xs) g1)
    go_enter Try.func31, Try.ntmps31
    go_wp2_with fail
    go_ret
    exact ⟨by rw [E.out]; rfl, by repeat' (first | assumption | with_reducible exact Below.refl _ _ | with_reducible apply Below.drew | with_reducible apply below_drewN | with_reducible apply below_alloc | with_reducible refine below_set ?_ ?_ _ | (simp only [World.size_alloc, World.heap_drewN]; omega) | (simp; omega))⟩
  have HE := hide (digErr_small (xs := xs) g1)
  go_enter Try.func31, Try.ntmps31
  go_wp2_with (at_make; refine wpList_make_sl T_bool rfl rfl _ _ rfl (by rfl) (by rfl) (by omega) (by simp only [maxLen]; omega) ?_; intro w2 own2 hb2; rw [show List.replicate n (Value.bool false) = bools (seenTo n xs 0) from by simp [bools, seenTo_zero]] at own2)
  go_loopw [14] (fun i wr => ∃ k : Nat, k ≤ n ∧ i = .int .i64 k ∧ digTo n xs k = 0 ∧ Own wr w.heap.size 4 1 (some ⟨w.heap.size, 0, none⟩) n n (bools (seenTo n xs k)) ∧ Below w.heap.size w wr) (fun i _ => n - (intOf i).toNat)
  case atStart => exact ⟨0, Nat.zero_le _, rfl, rfl, own2, hb2⟩
  case round =>
    clear own2 hb2
    obtain ⟨k, hk, rfl, hok, hown, hb⟩ := hrel
    have HOK := hide hok
    clear hok
    by_cases hlt : k < n
    · obtain ⟨ad, x, rfl, hbk, hx, hc⟩ := (h.on hb).icell hlt
      have HX := hide hx
      clear hx
      by_cases x0 : x < 0
      · have B := hide (digTo_bad HOK.out (digStep_1 HX.out (.inl x0)) (by decide) n hlt)
        go_wp2_with fail
        go_ret
        exact ⟨by rw [HE.out, B.out]; rfl, hb⟩
      by_cases x1 : (n : Int) ≤ x
      · have B := hide (digTo_bad HOK.out (digStep_1 HX.out (.inr x1)) (by decide) n hlt)
        go_wp2_with fail
        go_ret
        exact ⟨by rw [HE.out, B.out]; rfl, hb⟩
      obtain ⟨j, rfl⟩ := Int.eq_ofNat_of_zero_le (show 0 ≤ x by omega)
      have hjn : j < n := by omega
      have hcb := hown.cell (bools_at (seenTo_at (xs := xs) (k := k) hjn))
      have hfb := hown.free j
      by_cases hin : (j : Int) ∈ xs.take k
      · rw [decide_eq_true hin] at hcb
        have B := hide (digTo_bad HOK.out (digStep_5 HX.out (by omega) hin) (by decide) n hlt)
        clear hin
        go_wp2_with fail
        go_ret
        exact ⟨by rw [HE.out, B.out]; rfl, hb⟩
      · rw [decide_eq_false hin] at hcb
        have HN := hide (digTo_next HOK.out (digStep_0 HX.out (by omega) hin))
        have HS := hide (seenTo_next (n := n) HX.out)
        clear hin
        go_wp2_with fail
        go_roundw
        case rel =>
          refine ⟨k + 1, by omega, by go_num, HN.out, ?_, below_set hb (Nat.le_refl _) _⟩
          rw [← HS.out, bools_set]
          exact hown.set j _
        case measure => simp [intOf]; omega
    · obtain rfl : k = n := by omega
      go_wp2_with fail
      go_ret
      exact ⟨by rw [HE.out, HOK.out]; rfl, hb⟩
set_option maxRecDepth 20000 in
set_option maxHeartbeats 1600000 in
theorem order_any (h : Si w A n c xs) :
    Calls Try.prog 30 #[.slice A n c] w fun e w' => e = .returned (.int .i64 (digErr n xs)) ∧ w = w' := by
  have hm := h.len_max
  have HL := hide h.ilen
  by_cases g1 : 12 < n
  · have E := hide (digErr_big (xs := xs) g1)
    go_enter Try.func30, Try.ntmps30
    go_wp2_with fail
    go_ret
    exact ⟨by rw [E.out]; rfl, rfl⟩
  have HE := hide (digErr_small (xs := xs) g1)
  go_enter Try.func30, Try.ntmps30
  go_wp2_with fail
  go_loop [10] (fun i => ∃ k : Nat, k ≤ n ∧ i = .int .i64 k ∧ digTo n xs k = 0) (fun i => n - (intOf i).toNat)
  case atStart => exact ⟨0, Nat.zero_le _, rfl, rfl⟩
  case round =>
    obtain ⟨k, hk, rfl, hok⟩ := hrel
    have HOK := hide hok
    clear hok
    by_cases hlt : k < n
    · have hcp := h.cap
      obtain ⟨ad, x, rfl, hbk, hx, hc⟩ := h.icell hlt
      have HX := hide hx
      clear hx
      by_cases x0 : 0 ≤ x ∧ x ≤ (n : Int) - 1
      · have t1 := inR_yes x0
        by_cases hin : x ∈ xs.take k
        · have B := hide (digTo_bad HOK.out (digStep_5 HX.out (by omega) hin) (by decide) n hlt)
          have HC := hide (contains_ints (h.itake (Nat.le_of_lt hlt)) x true (decide_eq_true hin).symm)
          clear hin x0
          go_wp2_with (first | (go_at_call 70; refine (within_any _ _ _ _).mono ?_; rintro e w' ⟨rfl, rfl⟩) | (go_at_call 75; refine HC.out.mono ?_; rintro e w' ⟨rfl, rfl⟩))
          go_ret
          exact ⟨by rw [HE.out, B.out]; rfl, rfl⟩
        · have HN := hide (digTo_next HOK.out (digStep_0 HX.out (by omega) hin))
          have HC := hide (contains_ints (h.itake (Nat.le_of_lt hlt)) x false (decide_eq_false hin).symm)
          clear hin x0
          go_wp2_with (first | (go_at_call 70; refine (within_any _ _ _ _).mono ?_; rintro e w' ⟨rfl, rfl⟩) | (go_at_call 75; refine HC.out.mono ?_; rintro e w' ⟨rfl, rfl⟩))
          go_round
          case rel => exact ⟨k + 1, by omega, by go_num, HN.out⟩
          case measure => simp [intOf]; omega
      · have t1 := inR_no x0
        have B := hide (digTo_bad HOK.out (digStep_1 HX.out (by omega)) (by decide) n hlt)
        clear x0
        go_wp2_with (first | (go_at_call 70; refine (within_any _ _ _ _).mono ?_; rintro e w' ⟨rfl, rfl⟩))
        go_ret
        exact ⟨by rw [HE.out, B.out]; rfl, rfl⟩
    · obtain rfl : k = n := by omega
      go_wp2_with fail
      go_ret
      exact ⟨by rw [HE.out, HOK.out]; rfl, rfl⟩
end
end Go.Proofs.Ytjmkejindmgckaa
