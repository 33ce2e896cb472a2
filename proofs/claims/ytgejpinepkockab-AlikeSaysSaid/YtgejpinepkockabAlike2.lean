/-
  alike.First, culref.First, alike.Same: the walks. Conditions: the slices read as lists of numbers.
-/
import Derived.Test.YtgejpinepkockabAlike
import Derived.Deep.QuietTactic
import Derived.BigQuiet
namespace Go.Proofs.Ytgejpinepkockab
open Go.RowKit

theorem order_is {A : Option Addr} {n c : Nat} {xs : List Int} {w : World} (h : Si w A n c xs) {E : Int} (he : digErr n xs = E) :
    Calls Try.prog 13 #[.slice A n c] w fun e w' => e = .returned (.int .i64 E) ∧ w = w' := by
  have k := order_any h; rw [he] at k; exact k
theorem set_is {A : Option Addr} {n c m : Nat} {ls : List Int} {w : World} (h : Si w A n c ls) (hm : m ≤ 12) {E : Int} (he : thErr n m ls = E) :
    Calls Try.prog 79 #[.slice A n c, .int .i64 m] w fun e w' => e = .returned (.int .i64 E) ∧ w = w' := by
  have k := set_any h hm; rw [he] at k; exact k
theorem things_is {A : Option Addr} {n c m : Nat} {ls : List Int} {w : World} (h : Si w A n c ls) (hm : m ≤ 12) {E : Int} (he : thErr n m ls = E) :
    Calls Try.prog 80 #[.slice A n c, .int .i64 m] w fun e w' => e = .returned (.int .i64 E) ∧ w = w' := by
  have k := things_any h hm; rw [he] at k; exact k
section
variable {A B : Option Addr} {n c m d : Nat} {ls os : List Int} {w : World}
set_option maxRecDepth 20000 in
set_option maxHeartbeats 1600000 in
theorem first_any (h : Si w A n c ls) (ho : Si w B m d os) :
    Calls Try.prog 26 #[.slice B m d, .slice A n c] w fun e w' => e = .returned (.tuple #[.int .i64 (fVal m n os ls), .int .i64 (fErr m n os ls)]) ∧ Below w.heap.size w w' := by
  have hm := h.len_max
  have hm2 := ho.len_max
  by_cases e1 : digErr m os = 0
  · obtain ⟨g1, _⟩ := digErr_zero e1
    by_cases e2 : thErr n m ls = 0
    · obtain ⟨g2, g3⟩ := thErr_zero e2
      have H1 := hide e1
      have H2 := hide e2
      have HTH := hide g3
      have HL := hide h.ilen
      have HO := hide ho.ilen
      by_cases n0 : n = 0
      · have hE := fErr_4 (os := os) (ls := ls) e1 e2 n0
        have hV : fVal m n os ls = 0 := by unfold fVal; rw [if_neg (by rw [hE]; decide)]
        rw [hE, hV]
        subst n0
        clear e1 e2 g3 hE hV
        go_enter Try.func26, Try.ntmps26
        go_wp2_with fail
        refine (digCheck_is ho H1.out).mono ?_
        rintro e w1 ⟨rfl, hb1⟩
        go_wp2_with fail
        refine (set_is (h.on hb1) g1 H2.out).mono ?_
        rintro e w2 ⟨rfl, rfl⟩
        go_wp2_with fail
        go_loop [8, 25] (fun o i => i = .int .i64 0 ∧ o = .int .i64 (-1)) (fun _ i => 0)
        case atStart => exact ⟨rfl, rfl⟩
        case round =>
          obtain ⟨rfl, rfl⟩ := hrel
          go_wp2_with fail
          go_ret2
          exact ⟨rfl, hb1⟩
      · have hE := fErr_0 (os := os) e1 e2 n0
        have hV : fVal m n os ls = bestTo os ls n := by unfold fVal; rw [if_pos hE]
        rw [hE, hV]
        clear e1 e2 g3 hE hV
        go_enter Try.func26, Try.ntmps26
        go_wp2_with fail
        refine (digCheck_is ho H1.out).mono ?_
        rintro e w1 ⟨rfl, hb1⟩
        go_wp2_with fail
        refine (set_is (h.on hb1) g1 H2.out).mono ?_
        rintro e w2 ⟨rfl, rfl⟩
        have h1 := h.on hb1
        have ho1 := ho.on hb1
        go_wp2_with fail
        go_loopw [8, 25] (fun o i wr => ∃ k q : Nat, k ≤ n ∧ i = .int .i64 k ∧ o = .int .i64 (bestTo os ls k) ∧ wr = w1.drewN q) (fun _ i _ => n - (intOf i).toNat)
        case atStart => exact ⟨0, 0, Nat.zero_le _, rfl, rfl, rfl⟩
        case round =>
          obtain ⟨k, q, hk, rfl, rfl, rfl⟩ := hrel
          have hin := bestTo_in (os := os) HL.out HTH.out k hk
          by_cases hlt : k < n
          · obtain ⟨ad, x, rfl, hbk, hx, hc⟩ := h1.icell hlt
            obtain ⟨x0, x1⟩ := th_in HTH.out hlt hx
            have HN := hide (bestTo_next (os := os) hx)
            obtain ⟨xn, rfl⟩ := Int.eq_ofNat_of_zero_le x0
            clear hx
            obtain ⟨b, hb⟩ : ∃ b, bestTo os ls k = b := ⟨_, rfl⟩
            rw [hb] at hin HN ⊢
            clear hb
            by_cases b0 : b < 0
            · have HM := hide (show bestTo os ls (k + 1) = (xn : Int) by rw [HN.out, if_pos (.inl b0)])
              clear hin
              go_wp2_with fail
              go_quiet (fail)
              go_wp2_with fail
              go_roundw
              case rel => exact ⟨k + 1, _, by omega, by go_num, by rw [HM.out], rfl⟩
              case measure => simp [intOf]; omega
            · have q3 : 0 ≤ b := by omega
              have hbm : b.toNat < m := by omega
              obtain ⟨ae, ox, rfl, hbe, hox, hcx⟩ := ho1.icell (j := xn) (by omega)
              obtain ⟨ae', ob, eA, hbe', hob, hcb⟩ := ho1.icell (j := b.toNat) hbm
              injection eA with eA
              subst eA
              have q1 : (xn : Int) < (m : Int) := x1
              have hd : decide (b < 0) = false := decide_eq_false b0
              have q2 : b < (m : Int) := by omega
              rw [Int.toNat_natCast, getD_of hox, getD_of hob] at HN
              clear hox hob hin b0
              by_cases hlo : ox < ob
              · have HM := hide (show bestTo os ls (k + 1) = (xn : Int) by rw [HN.out, if_pos (.inr hlo)])
                go_wp2_with fail
                go_quiet (fail)
                go_wp2_with fail
                go_roundw
                case rel => exact ⟨k + 1, _, by omega, by go_num, by rw [HM.out], rfl⟩
                case measure => simp [intOf]; omega
              · have HM := hide (show bestTo os ls (k + 1) = b by rw [HN.out, if_neg (by omega)])
                go_wp2_with fail
                go_quiet (fail)
                go_wp2_with fail
                go_roundw
                case rel => exact ⟨k + 1, _, by omega, by go_num, by rw [HM.out], rfl⟩
                case measure => simp [intOf]; omega
          · obtain rfl : k = n := by omega
            have hb0 : 0 ≤ bestTo os ls k := by
              rcases hin with ⟨h1, _⟩ | h1
              · exact absurd h1 n0
              · exact h1.1
            obtain ⟨b, hb⟩ : ∃ b, bestTo os ls k = b := ⟨_, rfl⟩
            rw [hb] at hb0 ⊢
            have HB := hide hb
            clear hb hin
            go_wp2_with fail
            go_ret2
            exact ⟨by rw [HB.out]; rfl, below_drewN hb1 _⟩
    · have hE := fErr_2 (os := os) e1 e2
      have hV : fVal m n os ls = 0 := by unfold fVal; rw [if_neg (by rw [hE]; exact e2)]
      rw [hE, hV]
      obtain ⟨E, hEE⟩ : ∃ E, thErr n m ls = E := ⟨_, rfl⟩
      rw [hEE] at e2 ⊢
      have t1 : (E != 0) = true := by simpa using e2
      have H1 := hide e1
      have H2 := hide hEE
      clear e1 e2 hE hV hEE
      go_enter Try.func26, Try.ntmps26
      go_wp2_with fail
      refine (digCheck_is ho H1.out).mono ?_
      rintro e w1 ⟨rfl, hb1⟩
      go_wp2_with fail
      refine (set_is (h.on hb1) g1 H2.out).mono ?_
      rintro e w2 ⟨rfl, rfl⟩
      go_wp2_with fail
      go_ret2
      exact ⟨rfl, hb1⟩
  · have hE := fErr_1 (n := n) (ls := ls) e1
    have hV : fVal m n os ls = 0 := by unfold fVal; rw [if_neg (by rw [hE]; exact e1)]
    rw [hE, hV]
    obtain ⟨E, hEE⟩ : ∃ E, digErr m os = E := ⟨_, rfl⟩
    rw [hEE] at e1 ⊢
    have t1 : (E != 0) = true := by simpa using e1
    have H1 := hide hEE
    clear e1 hE hV hEE
    go_enter Try.func26, Try.ntmps26
    go_wp2_with fail
    refine (digCheck_is ho H1.out).mono ?_
    rintro e w1 ⟨rfl, hb1⟩
    go_wp2_with fail
    go_ret2
    exact ⟨rfl, hb1⟩
end
end Go.Proofs.Ytgejpinepkockab
