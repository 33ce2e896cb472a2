/-
  bottom.Check, culref.Bottom, culref.SameBottom: the walks. Conditions: the slices read as lists of numbers.
-/
import Derived.Test.YtkliebhpdcjdgaaBottomP
import Derived.Test.YtkliebhpdcjdgaaGateT
import Derived.Test.YtkliebhpdcjdgaaClone
import Derived.Test.YtkliebhpdcjdgaaOwn2
namespace Go.Proofs.Ytkliebhpdcjdgaa
open Go.RowKit

def lastOf (xs : List Int) (k : Nat) : Int := if k = 0 then -1 else xs.getD (k - 1) 0
theorem lastOf_next {xs : List Int} {k : Nat} {x : Int} (h : xs[k]? = some x) : lastOf xs (k + 1) = x := by
  unfold lastOf
  rw [if_neg (by omega), Nat.add_sub_cancel, getD_of h]
theorem bot_draw {xs : List Int} {k : Nat} {x : Int} (h : xs[k]? = some x) (hd : isDraw x = false) : botStep xs k = 1 := by
  unfold botStep
  rw [getD_of h, if_neg (by show ¬ isDraw x = true; rw [hd]; simp)]
theorem bot_low {xs : List Int} {k : Nat} {x : Int} (h : xs[k]? = some x) (hd : isDraw x = true) (hl : x ≤ lastOf xs k) : botStep xs k = 3 := by
  unfold botStep
  have h0 := of_decide_eq_true (show decide (0 ≤ x ∧ x ≤ 72057594037927935) = true from hd)
  rw [getD_of h, if_pos (show isDr x = true from hd)]
  unfold lastOf at hl
  by_cases e : k = 0
  · rw [if_pos e] at hl; omega
  · rw [if_neg e] at hl
    rw [if_pos ⟨by omega, hl⟩]
theorem bot_ok {xs : List Int} {k : Nat} {x : Int} (h : xs[k]? = some x) (hd : isDraw x = true) (hl : ¬ x ≤ lastOf xs k) : botStep xs k = 0 := by
  unfold botStep
  rw [getD_of h, if_pos (show isDr x = true from hd)]
  unfold lastOf at hl
  by_cases e : k = 0
  · rw [if_neg (by omega)]
  · rw [if_neg e] at hl
    rw [if_neg (by omega)]
theorem botErr_1 {K : Int} {n : Nat} {xs : List Int} (h : K < 1 ∨ 40 < K) : botErr K n xs = 1 := if_pos h
theorem botErr_2 {K : Int} {n : Nat} {xs : List Int} (h : ¬ (K < 1 ∨ 40 < K)) (h2 : K < n) : botErr K n xs = 2 := by unfold botErr; rw [if_neg h, if_pos h2]
theorem botErr_at {K : Int} {n k : Nat} {xs : List Int} {c : Int} (h : ¬ (K < 1 ∨ 40 < K)) (h2 : ¬ K < n) (hk : k < n) (h0 : faultTo (botStep xs) k = 0) (hc : botStep xs k = c) (hne : c ≠ 0) : botErr K n xs = c := by
  unfold botErr; rw [if_neg h, if_neg h2]; exact faultTo_bad h0 hc hne n hk
theorem botErr_0 {K : Int} {n : Nat} {xs : List Int} (h : ¬ (K < 1 ∨ 40 < K)) (h2 : ¬ K < n) (h0 : faultTo (botStep xs) n = 0) : botErr K n xs = 0 := by unfold botErr; rw [if_neg h, if_neg h2, h0]
section
variable {A : Option Addr} {n c : Nat} {xs : List Int} {w : World} {K : Int}
set_option maxRecDepth 20000 in
set_option maxHeartbeats 1600000 in
theorem bcheck_any (h : Si w A n c xs) :
    Calls Try.prog 21 #[.agg #[.int .i64 K, .slice A n c]] w fun e w' => e = .returned (.int .i64 (botErr K n xs)) ∧ Below w.heap.size w w' := by
  have hm := h.len_max
  have b0 := Blk.new w 37 #[.int .i64 K, .slice A n c]
  have hb0 : Below w.heap.size w (w.alloc (.cells #[.int .i64 K, .slice A n c] 37)) := by repeat' (first | assumption | with_reducible exact Below.refl _ _ | with_reducible apply Below.drew | with_reducible apply below_drewN | with_reducible apply below_alloc | with_reducible refine below_set ?_ ?_ _ | (simp only [World.size_alloc, World.heap_drewN]; omega) | (simp; omega))
  have h0 := h.on hb0
  have c0 := b0.at_ (i := 0) (u := .int .i64 K) rfl
  have c1 := b0.at_ (i := 1) (u := .slice A n c) rfl
  by_cases g1 : K < 1 ∨ 40 < K
  · rw [botErr_1 g1]
    rcases g1 with g1 | g1
    · go_enter Try.func21, Try.ntmps21
      go_wp2_with fail
      go_ret
      exact ⟨rfl, hb0⟩
    · have g2 : ¬ K < 1 := by omega
      go_enter Try.func21, Try.ntmps21
      go_wp2_with fail
      go_ret
      exact ⟨rfl, hb0⟩
  · have G1 := hide g1
    have g3 : ¬ K < 1 := by omega
    have g4 : ¬ 40 < K := by omega
    clear g1
    by_cases g2 : K < n
    · rw [botErr_2 G1.out g2]
      go_enter Try.func21, Try.ntmps21
      go_wp2_with fail
      go_ret
      exact ⟨rfl, hb0⟩
    · have G2 := hide g2
      go_enter Try.func21, Try.ntmps21
      go_wp2_with fail
      go_loop [22] (fun i => ∃ k : Nat, k ≤ n ∧ i = .int .i64 k ∧ faultTo (botStep xs) k = 0) (fun i => n - (intOf i).toNat)
      case atStart => exact ⟨0, by omega, rfl, rfl⟩
      case round =>
        obtain ⟨k, hk, rfl, hx⟩ := hrel
        have HX := hide hx
        clear hx
        by_cases hlt : k < n
        · obtain ⟨ad, x, rfl, hbk, hx, hc⟩ := h0.icell hlt
          have HXX := hide hx
          cases hd : isDraw x
          · have HE := hide (show botErr K n xs = 1 from botErr_at G1.out (by have := G2.out; omega) hlt HX.out (bot_draw hx hd) (by decide))
            have HD := hide hd
            clear hx hd
            go_wp2_with fail
            refine (hnum_is HD.out _).mono ?_
            rintro e w1 ⟨rfl, rfl⟩
            go_wp2_with fail
            rw [HE.out]
            go_ret
            exact ⟨rfl, hb0⟩
          · have HD := hide hd
            by_cases k0 : k = 0
            · have hx0 := of_decide_eq_true (show decide (0 ≤ x ∧ x ≤ 72057594037927935) = true from hd)
              have HN := hide (faultTo_next HX.out (bot_ok hx hd (by unfold lastOf; rw [if_pos k0]; omega)))
              have hz : ¬ 0 < (k : Int) := by omega
              have hz3 : ¬ 0 < k := by omega
              clear hx hd k0
              go_wp2_with fail
              refine (hnum_is HD.out _).mono ?_
              rintro e w1 ⟨rfl, rfl⟩
              go_wp2_with fail
              go_round
              case rel => exact ⟨k + 1, by omega, by go_num, HN.out⟩
              case measure => simp [intOf]; omega
            · obtain ⟨m, hkm⟩ : ∃ m : Nat, k = m + 1 := ⟨k - 1, by omega⟩
              have hk1 : (k : Int) - 1 = (m : Int) := by omega
              have hkp : 0 < (k : Int) := by omega
              have hkp2 : 0 < k := by omega
              obtain ⟨ad2, y, had, _, hy, hc2⟩ := h0.icell (show m < n by omega)
              injection had with had
              subst had
              have hl := lastOf_next hy
              rw [← hkm] at hl
              have HKM := hide hkm
              clear hy k0 hkm
              by_cases hle : x ≤ y
              · have HE := hide (show botErr K n xs = 3 from botErr_at G1.out (by have := G2.out; omega) hlt HX.out (bot_low hx hd (by rw [hl]; exact hle)) (by decide))
                clear hx hd hl
                go_wp2_with fail
                refine (hnum_is HD.out _).mono ?_
                rintro e w1 ⟨rfl, rfl⟩
                go_wp2_with fail
                rw [HE.out]
                go_ret
                exact ⟨rfl, hb0⟩
              · have HN := hide (faultTo_next HX.out (bot_ok hx hd (by rw [hl]; exact hle)))
                clear hx hd hl
                go_wp2_with fail
                refine (hnum_is HD.out _).mono ?_
                rintro e w1 ⟨rfl, rfl⟩
                go_wp2_with fail
                go_round
                case rel => exact ⟨k + 1, by omega, by go_num, HN.out⟩
                case measure => simp [intOf]; omega
        · obtain rfl : k = n := by omega
          go_wp2_with fail
          rw [botErr_0 G1.out (by have := G2.out; omega) HX.out]
          go_ret
          exact ⟨rfl, hb0⟩
theorem draw_is (x : Int) (w : World) {d : Bool} (hd : isDraw x = d) : Calls Try.prog 13 #[.int .i64 x] w fun e w' => e = .returned (.bool d) ∧ w = w' := by
  have HD := hide hd
  go_enter Try.func13, Try.ntmps13
  go_wp2_with fail
  refine (within_any _ _ _ _).mono ?_
  rintro e w' ⟨rfl, rfl⟩
  go_wp2_with fail
  go_ret
  exact ⟨by rw [← HD.out]; rfl, rfl⟩
set_option maxRecDepth 20000 in
set_option maxHeartbeats 1600000 in
theorem rbot_any (h : Si w A n c xs) :
    Calls Try.prog 20 #[.agg #[.int .i64 K, .slice A n c]] w fun e w' => e = .returned (.int .i64 (botErr K n xs)) ∧ Below w.heap.size w w' := by
  have hm := h.len_max
  have b0 := Blk.new w 37 #[.int .i64 K, .slice A n c]
  have hb0 : Below w.heap.size w (w.alloc (.cells #[.int .i64 K, .slice A n c] 37)) := by repeat' (first | assumption | with_reducible exact Below.refl _ _ | with_reducible apply Below.drew | with_reducible apply below_drewN | with_reducible apply below_alloc | with_reducible refine below_set ?_ ?_ _ | (simp only [World.size_alloc, World.heap_drewN]; omega) | (simp; omega))
  have h0 := h.on hb0
  have c0 := b0.at_ (i := 0) (u := .int .i64 K) rfl
  have c1 := b0.at_ (i := 1) (u := .slice A n c) rfl
  by_cases g1 : K < 1 ∨ 40 < K
  · rw [botErr_1 g1]
    have HI := hide (inR_no (x := K) (a := 1) (b := 40) (by omega))
    clear g1
    go_enter Try.func20, Try.ntmps20
    go_wp2_with fail
    refine (within_any _ _ _ _).mono ?_
    rintro e w1 ⟨rfl, rfl⟩
    rw [HI.out]
    go_wp2_with fail
    go_ret
    exact ⟨rfl, hb0⟩
  · have G1 := hide g1
    have HI := hide (inR_yes (x := K) (a := 1) (b := 40) (by omega))
    clear g1
    by_cases g2 : K < n
    · rw [botErr_2 G1.out g2]
      go_enter Try.func20, Try.ntmps20
      go_wp2_with fail
      refine (within_any _ _ _ _).mono ?_
      rintro e w1 ⟨rfl, rfl⟩
      rw [HI.out]
      go_wp2_with fail
      go_ret
      exact ⟨rfl, hb0⟩
    · have G2 := hide g2
      go_enter Try.func20, Try.ntmps20
      go_wp2_with fail
      refine (within_any _ _ _ _).mono ?_
      rintro e w1 ⟨rfl, rfl⟩
      rw [HI.out]
      go_wp2_with fail
      go_loop [3, 19] (fun v i => ∃ k : Nat, k ≤ n ∧ i = .int .i64 k ∧ v = .int .i64 (lastOf xs k) ∧ faultTo (botStep xs) k = 0) (fun _ i => n - (intOf i).toNat)
      case atStart => exact ⟨0, by omega, rfl, rfl, rfl⟩
      case round =>
        obtain ⟨k, hk, rfl, rfl, hx⟩ := hrel
        have HX := hide hx
        clear hx
        by_cases hlt : k < n
        · obtain ⟨ad, x, rfl, hbk, hx, hc⟩ := h0.icell hlt
          have HL := hide (lastOf_next hx)
          cases hd : isDraw x
          · have HE := hide (show botErr K n xs = 1 from botErr_at G1.out (by have := G2.out; omega) hlt HX.out (bot_draw hx hd) (by decide))
            have HD := hide hd
            clear hx hd
            go_wp2_with fail
            refine (draw_is x _ HD.out).mono ?_
            rintro e w1 ⟨rfl, rfl⟩
            go_wp2_with fail
            rw [HE.out]
            go_ret
            exact ⟨rfl, hb0⟩
          · have HD := hide hd
            obtain ⟨Y, hY⟩ : ∃ Y, lastOf xs k = Y := ⟨_, rfl⟩
            rw [hY]
            by_cases hle : x ≤ Y
            · have HE := hide (show botErr K n xs = 3 from botErr_at G1.out (by have := G2.out; omega) hlt HX.out (bot_low hx hd (by rw [hY]; exact hle)) (by decide))
              clear hx hd hY
              go_wp2_with fail
              refine (draw_is x _ HD.out).mono ?_
              rintro e w1 ⟨rfl, rfl⟩
              go_wp2_with fail
              rw [HE.out]
              go_ret
              exact ⟨rfl, hb0⟩
            · have HN := hide (faultTo_next HX.out (bot_ok hx hd (by rw [hY]; exact hle)))
              clear hx hd hY
              go_wp2_with fail
              refine (draw_is x _ HD.out).mono ?_
              rintro e w1 ⟨rfl, rfl⟩
              go_wp2_with fail
              go_round
              case rel => exact ⟨k + 1, by omega, by go_num, by rw [HL.out], HN.out⟩
              case measure => simp [intOf]; omega
        · obtain rfl : k = n := by omega
          go_wp2_with fail
          rw [botErr_0 G1.out (by have := G2.out; omega) HX.out]
          go_ret
          exact ⟨rfl, hb0⟩
set_option maxRecDepth 20000 in
set_option maxHeartbeats 1600000 in
theorem sameb_yes {A2 : Option Addr} {c2 : Nat} (h : Si w A n c xs) (h2 : Si w A2 n c2 xs) :
    Calls Try.prog 22 #[.agg #[.int .i64 K, .slice A n c], .agg #[.int .i64 K, .slice A2 n c2]] w fun e w' => e = .returned (.bool true) ∧ Below w.heap.size w w' := by
  have hb0 : Below w.heap.size w ((w.alloc (.cells #[.int .i64 K, .slice A n c] 37)).alloc (.cells #[.int .i64 K, .slice A2 n c2] 37)) := by repeat' (first | assumption | with_reducible exact Below.refl _ _ | with_reducible apply Below.drew | with_reducible apply below_drewN | with_reducible apply below_alloc | with_reducible refine below_set ?_ ?_ _ | (simp only [World.size_alloc, World.heap_drewN]; omega) | (simp; omega))
  have t1 : (K == K) = true := by simp
  go_enter Try.func22, Try.ntmps22
  go_wp2_with fail
  refine (equal_yes A A2 n c c2 xs _ (h.on hb0) (h2.on hb0)).mono ?_
  rintro e w1 ⟨rfl, q, rfl⟩
  go_wp2_with fail
  go_ret
  exact ⟨rfl, below_drewN hb0 q⟩
end
end Go.Proofs.Ytkliebhpdcjdgaa
