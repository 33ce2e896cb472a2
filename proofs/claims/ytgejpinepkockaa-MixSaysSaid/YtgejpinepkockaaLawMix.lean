/-
  The walk of the law MixSays. Conditions: a length.
-/
import Derived.Test.YtgejpinepkockaaMix5
namespace Go.Proofs.Ytgejpinepkockaa
open Go.RowKit

theorem mix_one (w : World) : Calls Try.prog 51 #[.int .u64 1] w fun e w' => (∃ E : Int, e = .returned (.int .u64 E) ∧ (E == 0) = false) ∧ w = w' := by
  refine (mix_any 1 (by decide) w).mono ?_
  rintro e w' ⟨rfl, rfl⟩
  exact ⟨⟨_, rfl, by decide +kernel⟩, rfl⟩

set_option maxRecDepth 20000 in
set_option maxHeartbeats 1600000 in
theorem law_mix (x0 : Int) (s : ByteArray) (w : World) (hx0 : 0 ≤ x0 ∧ x0 ≤ 18446744073709551615) (hs : s.size ≤ 140737488351232) : Calls Try.prog 11 #[.int .u64 x0, .string s] w fun e w' => e = .returned (.bool true) ∧ Below w.heap.size w w' := by
  obtain ⟨x, rfl⟩ : ∃ x : Nat, x0 = (x : Int) := ⟨x0.toNat, by omega⟩
  have hx : x < 18446744073709551616 := by omega
  clear hx0
  have hn := nextN_lt x
  have hst := step_next x
  obtain ⟨N, hN⟩ : ∃ N, nextN x = N := ⟨_, rfl⟩
  obtain ⟨M, hM⟩ : ∃ M, mixN x = M := ⟨_, rfl⟩
  obtain ⟨U, hU⟩ : ∃ U, unmixN x = U := ⟨_, rfl⟩
  obtain ⟨K, hK⟩ : ∃ K, mixN N = K := ⟨_, rfl⟩
  rw [hN] at hn hst
  have c1 := next_any x hx w
  rw [hN, hK] at c1
  have c2 := mix_any x hx w
  have c3 := rmix_any x hx w
  rw [hM] at c2 c3
  have c4 := unmix_any x hx w
  have c5 := runmix_any x hx w
  rw [hU] at c4 c5
  have c6 := rmix_any N hn w
  rw [hK] at c6
  have c7 := mix_one w
  clear hN hM hU hK
  by_cases hl : 200 < s.size
  · have c8 := of_any s hs w
    rw [show ofVal s = 0 from if_pos hl, show ofErr s = 2 from if_pos hl] at c8
    have C1 := hide c1; have C2 := hide c2; have C3 := hide c3; have C4 := hide c4; have C5 := hide c5; have C6 := hide c6; have C7 := hide c7; have C8 := hide c8
    clear c1 c2 c3 c4 c5 c6 c7 c8
    go_enter Try.func11, Try.ntmps11
    go_wp2_with fail
    refine C1.out.mono ?_
    rintro e w1 ⟨rfl, rfl⟩
    go_wp2_with fail
    refine C8.out.mono ?_
    rintro e w1 ⟨rfl, rfl⟩
    go_wp2_with fail
    refine C2.out.mono ?_
    rintro e w1 ⟨rfl, rfl⟩
    go_wp2_with fail
    refine C3.out.mono ?_
    rintro e w1 ⟨rfl, rfl⟩
    go_wp2_with fail
    refine C4.out.mono ?_
    rintro e w1 ⟨rfl, rfl⟩
    go_wp2_with fail
    refine C5.out.mono ?_
    rintro e w1 ⟨rfl, rfl⟩
    go_wp2_with fail
    refine C6.out.mono ?_
    rintro e w1 ⟨rfl, rfl⟩
    go_wp2_with fail
    refine C7.out.mono ?_
    rintro e w1 ⟨⟨E, rfl, hE⟩, rfl⟩
    go_wp2_with fail
    go_ret
    exact ⟨rfl, Below.refl _ _⟩
  · have c8 := of_any s hs w
    rw [show ofVal s = (mixN (hashN s s.size) / 256 : Nat) from if_neg hl, show ofErr s = 0 from if_neg hl] at c8
    have c9 := hash_any s hs w
    generalize mixN (hashN s s.size) / 256 = H at c8 c9
    have C1 := hide c1; have C2 := hide c2; have C3 := hide c3; have C4 := hide c4; have C5 := hide c5; have C6 := hide c6; have C7 := hide c7; have C8 := hide c8; have C9 := hide c9
    clear c1 c2 c3 c4 c5 c6 c7 c8 c9
    go_enter Try.func11, Try.ntmps11
    go_wp2_with fail
    refine C1.out.mono ?_
    rintro e w1 ⟨rfl, rfl⟩
    go_wp2_with fail
    refine C8.out.mono ?_
    rintro e w1 ⟨rfl, rfl⟩
    go_wp2_with fail
    refine C2.out.mono ?_
    rintro e w1 ⟨rfl, rfl⟩
    go_wp2_with fail
    refine C3.out.mono ?_
    rintro e w1 ⟨rfl, rfl⟩
    go_wp2_with fail
    refine C4.out.mono ?_
    rintro e w1 ⟨rfl, rfl⟩
    go_wp2_with fail
    refine C5.out.mono ?_
    rintro e w1 ⟨rfl, rfl⟩
    go_wp2_with fail
    refine C6.out.mono ?_
    rintro e w1 ⟨rfl, rfl⟩
    go_wp2_with fail
    refine C7.out.mono ?_
    rintro e w1 ⟨⟨E, rfl, hE⟩, rfl⟩
    go_wp2_with fail
    refine C9.out.mono ?_
    rintro e w1 ⟨rfl, bel⟩
    go_wp2_with fail
    go_ret
    exact ⟨rfl, bel⟩
end Go.Proofs.Ytgejpinepkockaa
