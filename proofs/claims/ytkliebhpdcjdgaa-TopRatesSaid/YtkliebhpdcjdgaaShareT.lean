/-
  share.wants, share.Level: the walks. Conditions: the slice reads as a list of numbers.
-/
import Derived.Test.YtkliebhpdcjdgaaShareP
import Derived.Test.YtkliebhpdcjdgaaFunc
import Derived.Test.YtkliebhpdcjdgaaClone
import Derived.Test.YtkliebhpdcjdgaaOwn2
namespace Go.Proofs.Ytkliebhpdcjdgaa
open Go.RowKit

set_option maxHeartbeats 400000 in
theorem wantsFn (x : Int) (w : World) : Calls Try.prog 122 #[.int .i64 x] w fun e w' => e = .returned (.bool (!isCnt x)) ∧ w = w' := by
  by_cases h1 : x < 0
  · have E := hide (isCnt_no (x := x) (by omega))
    go_enter Try.func122, Try.ntmps122
    go_wp2_with fail
    go_ret
    exact ⟨by rw [E.out]; rfl, rfl⟩
  · by_cases h2 : 1000000000000 < x
    · have E := hide (isCnt_no (x := x) (by omega))
      go_enter Try.func122, Try.ntmps122
      go_wp2_with fail
      go_ret
      exact ⟨by rw [E.out]; rfl, rfl⟩
    · have E := hide (isCnt_yes (x := x) (by omega))
      go_enter Try.func122, Try.ntmps122
      go_wp2_with fail
      go_ret
      exact ⟨by rw [E.out]; rfl, rfl⟩
theorem wantsFn_does : Answers 122 (fun x => !isCnt x) := ⟨enters_of Try.func122 (by kernel_rfl) rfl, wantsFn⟩
theorem none_cnt (zs : List Int) (k : Nat) : noneTo (fun x => !isCnt x) zs k = cntsTo zs k := by simp [noneTo, cntsTo]
def lvV (r : Int) : Int := if 0 ≤ r then r else 0
def lvE (r : Int) : Int := if 0 ≤ r then 0 else 4
theorem lvV_yes (k : Nat) : lvV (k : Int) = k := if_pos (by omega)
theorem lvE_yes (k : Nat) : lvE (k : Int) = 0 := if_pos (by omega)
def wtOne (n : Nat) (l : List Int) : Int := if 40 < n then 2 else if cntsTo l n = true then 0 else 1
section
variable {A : Option Addr} {n c : Nat} {l : List Int} {w : World} {room : Int}
set_option maxHeartbeats 800000 in
theorem wants_any (h : Si w A n c l) :
    Calls Try.prog 87 #[.slice A n c] w fun e w' => e = .returned (.int .i64 (wtOne n l)) ∧ Below w.heap.size w w' := by
  have hm := h.len_max
  by_cases h1 : 40 < n
  · have E := hide (show wtOne n l = 2 from if_pos h1)
    go_enter Try.func87, Try.ntmps87
    go_wp2_with fail
    go_ret
    exact ⟨by rw [E.out]; rfl, Below.refl _ _⟩
  · cases hc : cntsTo l n
    · have E := hide (show wtOne n l = 1 by unfold wtOne; rw [if_neg h1, if_neg (by rw [hc]; simp)])
      have HC := hide (show (!noneTo (fun x => !isCnt x) l n) = true by rw [none_cnt, hc]; rfl)
      clear hc
      go_enter Try.func87, Try.ntmps87
      go_wp2_with fail
      refine (containsFunc_ints _ _ wantsFn_does A n c l _ h HC.out).mono ?_
      rintro e w1 ⟨rfl, hb1⟩
      go_wp2_with fail
      go_ret
      exact ⟨by rw [E.out]; rfl, hb1⟩
    · have E := hide (show wtOne n l = 0 by unfold wtOne; rw [if_neg h1, if_pos hc])
      have HC := hide (show (!noneTo (fun x => !isCnt x) l n) = false by rw [none_cnt, hc]; rfl)
      clear hc
      go_enter Try.func87, Try.ntmps87
      go_wp2_with fail
      refine (containsFunc_ints _ _ wantsFn_does A n c l _ h HC.out).mono ?_
      rintro e w1 ⟨rfl, hb1⟩
      go_wp2_with fail
      go_ret
      exact ⟨by rw [E.out]; rfl, hb1⟩
theorem wants_is (h : Si w A n c l) {E : Int} (he : wtOne n l = E) :
    Calls Try.prog 87 #[.slice A n c] w fun e w' => e = .returned (.int .i64 E) ∧ Below w.heap.size w w' := by
  have k := wants_any h; rw [he] at k; exact k
set_option maxRecDepth 20000 in
set_option maxHeartbeats 1600000 in
theorem level_ok (h : Si w A n c l) (he : wtErr room n l = 0) :
    Calls Try.prog 45 #[.int .i64 room, .slice A n c] w fun e w' => e = .returned (.tuple #[.int .i64 (lvV (lvl room l n)), .int .i64 (lvE (lvl room l n))]) ∧ Below w.heap.size w w' := by
  obtain ⟨n4, hw, r0, r1⟩ := wts_of h.ilen he
  have HW := hide hw
  have H1 := hide (show wtOne n l = 0 by
    unfold wtErr at he
    unfold wtOne
    rw [if_neg (by omega)] at he ⊢
    by_cases hc : cntsTo l n = true
    · rw [if_pos hc]
    · rw [if_neg (fun h => hc h.1)] at he; omega)
  clear he hw
  go_enter Try.func45, Try.ntmps45
  go_wp2_with fail
  refine (wants_is h H1.out).mono ?_
  rintro e w1 ⟨rfl, hb1⟩
  go_wp2_with fail
  have h1 := h.on hb1
  go_loop [22] (fun vk => ∃ k : Nat, k ≤ 21 ∧ vk = .int .i64 k ∧ ∀ j, j < k → lvOk room l n j = false) (fun vk => 21 - (intOf vk).toNat)
  case atStart => exact ⟨0, Nat.zero_le _, rfl, fun j hj => by omega⟩
  case round =>
    obtain ⟨k, hk, rfl, hno⟩ := hrel
    have HNO := hide hno
    clear hno
    by_cases hlt : k < 21
    · go_wp2_with fail
      go_loop [8, 27] (fun vs vj => ∃ j : Nat, j ≤ n ∧ vj = .int .i64 j ∧ vs = .int .i64 (hsum l k j)) (fun _ vj => n - (intOf vj).toNat)
      case atStart => exact ⟨0, Nat.zero_le _, rfl, rfl⟩
      case round =>
        obtain ⟨j, hj, rfl, rfl⟩ := hrel
        obtain ⟨s0, s1⟩ := hsum_bd (k := k) HW.out j hj
        by_cases hlt2 : j < n
        · obtain ⟨ad, x, rfl, hbk, hx, hc⟩ := h1.icell hlt2
          obtain ⟨x0, x1⟩ := HW.out.cnt j hlt2
          rw [el_of hx] at x0 x1
          have HS := hide (show hsum l k (j + 1) = hsum l k j + x / (2 : Int) ^ k by rw [hsum, el_of hx])
          have d0 : 0 ≤ x / (2 : Int) ^ k := Int.ediv_nonneg x0 (Int.le_of_lt (Int.pow_pos (by decide)))
          have d1 : x / (2 : Int) ^ k ≤ 1000000000000 := Int.le_trans (Int.ediv_le_self _ x0) x1
          obtain ⟨S, hS⟩ : ∃ S, hsum l k j = S := ⟨_, rfl⟩
          rw [hS] at s0 s1 HS ⊢
          clear hx hS
          go_wp2_with fail
          go_round
          case rel => exact ⟨j + 1, by omega, by go_num, by rw [HS.out]⟩
          case measure => simp [intOf]; omega
        · obtain rfl : j = n := by omega
          by_cases hle : hsum l k j ≤ room
          · have HL := hide (show lvl room l j = k from firstOk_at HNO.out (decide_eq_true hle) 21 hlt)
            go_wp2_with fail
            go_ret2
            rw [HL.out, lvV_yes, lvE_yes]
            exact ⟨rfl, hb1⟩
          · have HN := hide (show ∀ i, i < k + 1 → lvOk room l j i = false from fun i hi => by
              by_cases e : i = k
              · subst e; exact decide_eq_false hle
              · exact HNO.out i (by omega))
            go_wp2_with fail
            go_round
            case rel => exact ⟨k + 1, by omega, by go_num, HN.out⟩
            case measure => simp [intOf]; omega
    · obtain rfl : k = 21 := by omega
      have HL := hide (show lvl room l n = -1 from firstOk_none 21 HNO.out)
      go_wp2_with fail
      go_ret2
      rw [HL.out]
      exact ⟨rfl, hb1⟩
set_option maxRecDepth 20000 in
set_option maxHeartbeats 800000 in
theorem level_bad (h : Si w A n c l) {E : Int} (he : wtErr room n l = E) (h0 : ¬ E = 0) :
    Calls Try.prog 45 #[.int .i64 room, .slice A n c] w fun e w' => e = .returned (.tuple #[.int .i64 0, .int .i64 E]) ∧ Below w.heap.size w w' := by
  by_cases h1 : wtOne n l = 0
  · have hE : E = 1 ∧ (room < 0 ∨ (¬ room < 0 ∧ 1000000000000 < room)) := by
      unfold wtOne at h1
      unfold wtErr at he
      by_cases g1 : 40 < n
      · rw [if_pos g1] at h1; omega
      · rw [if_neg g1] at h1 he
        by_cases g2 : cntsTo l n = true
        · by_cases g3 : isCnt room = true
          · rw [if_pos ⟨g2, g3⟩] at he; omega
          · rw [if_neg (fun h => g3 h.2)] at he
            refine ⟨by omega, ?_⟩
            have : ¬ (0 ≤ room ∧ room ≤ 1000000000000) := fun h => g3 (isCnt_yes h)
            omega
        · rw [if_neg g2] at h1; omega
    obtain ⟨rfl, hr⟩ := hE
    have H1 := hide h1
    clear h1 he h0
    rcases hr with r1 | ⟨r1, r2⟩
    all_goals
      go_enter Try.func45, Try.ntmps45
      go_wp2_with fail
      refine (wants_is h H1.out).mono ?_
      rintro e w1 ⟨rfl, hb1⟩
      go_wp2_with fail
      go_ret2
      exact ⟨rfl, hb1⟩
  · have hE : wtOne n l = E := by
      unfold wtOne at h1 ⊢
      unfold wtErr at he
      by_cases g1 : 40 < n
      · rw [if_pos g1] at he ⊢; exact he
      · rw [if_neg g1] at h1 he ⊢
        by_cases g2 : cntsTo l n = true
        · rw [if_pos g2] at h1; omega
        · rw [if_neg (fun h => g2 h.1)] at he
          rw [if_neg g2]; exact he
    have H1 := hide hE
    have t1 : (E != 0) = true := by simpa using h0
    clear h1 he h0 hE
    go_enter Try.func45, Try.ntmps45
    go_wp2_with fail
    refine (wants_is h H1.out).mono ?_
    rintro e w1 ⟨rfl, hb1⟩
    go_wp2_with fail
    go_ret2
    exact ⟨rfl, hb1⟩
end
end Go.Proofs.Ytkliebhpdcjdgaa
