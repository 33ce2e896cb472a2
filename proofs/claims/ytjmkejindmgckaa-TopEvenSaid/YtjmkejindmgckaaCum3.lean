/-
  cum.Even: the walk. Condition: the slice reads as a list of numbers.
-/
import Derived.Test.YtjmkejindmgckaaCum2
namespace Go.Proofs.Ytjmkejindmgckaa
open Go.RowKit

section
variable {A : Option Addr} {n c : Nat} {xs : List Int} {w : World} {k start : Int}
set_option maxRecDepth 20000 in
set_option maxHeartbeats 1600000 in
theorem even_bad (h : Si w A n c xs) {E : Int} (he : wErr n xs = E) (h0 : ¬ E = 0) :
    Calls Try.prog 19 #[.slice A n c, .int .i64 k, .int .i64 start] w fun e w' => e = .returned (.tuple #[.slice none 0 0, .int .i64 E]) ∧ Below w.heap.size w w' := by
  have t1 : (E != 0) = true := by simpa using h0
  have HV := hide (wVal_bad (n := n) (xs := xs) (by rw [he]; exact h0))
  have H := hide he
  clear he h0
  go_enter Try.func19, Try.ntmps19
  go_wp2_with fail
  refine (weights_is h HV.out H.out).mono ?_
  rintro e w1 ⟨rfl, hb1⟩
  go_wp2_with fail
  go_ret2
  exact ⟨rfl, hb1⟩
def evenBad (k start all : Int) : Prop := k < 1 ∨ 1000 < k ∨ start < 0 ∨ all ≤ start
theorem evenBad_cases {k start all : Int} (h : evenBad k start all) : k < 1 ∨ (¬ k < 1 ∧ 1000 < k) ∨ (¬ k < 1 ∧ ¬ 1000 < k ∧ start < 0) ∨ (¬ k < 1 ∧ ¬ 1000 < k ∧ ¬ start < 0 ∧ all ≤ start) := by
  unfold evenBad at h; omega
set_option maxRecDepth 20000 in
set_option maxHeartbeats 1600000 in
theorem even_arg (h : Si w A n c xs) (he : wErr n xs = 0) (hb : evenBad k start (wsum xs n)) :
    Calls Try.prog 19 #[.slice A n c, .int .i64 k, .int .i64 start] w fun e w' => e = .returned (.tuple #[.slice none 0 0, .int .i64 1]) ∧ Below w.heap.size w w' := by
  have key := evenBad_cases hb
  obtain ⟨S, hS⟩ : ∃ S, wsum xs n = S := ⟨_, rfl⟩
  have HV := hide (show wVal n xs = S by rw [wVal, if_pos he, hS])
  rw [hS] at key
  have H := hide he
  clear he hS hb
  rcases key with k1 | ⟨k1, k2⟩ | ⟨k1, k2, k3⟩ | ⟨k1, k2, k3, k4⟩
  all_goals
    go_enter Try.func19, Try.ntmps19
    go_wp2_with fail
    refine (weights_is h HV.out H.out).mono ?_
    rintro e w1 ⟨rfl, hb1⟩
    go_wp2_with fail
    go_ret2
    exact ⟨rfl, hb1⟩
def EvenRet (w : World) (n : Nat) (zs : List Int) (e : Ending) (w' : World) : Prop :=
  ∃ A c, e = .returned (.tuple #[.slice A n c, .int .i64 0]) ∧ Own w' w.heap.size 3 1 A n c (ints zs) ∧ Below w.heap.size w w'
theorem even_point {start S k : Int} {j : Nat} (h1 : start < S) (hj : (j : Int) + 1 ≤ k) (h0 : 0 ≤ S) : start + (j : Int) * S < S * k := by
  have h2 : ((j : Int) + 1) * S ≤ k * S := Int.mul_le_mul_of_nonneg_right hj h0
  rw [Int.add_mul, Int.one_mul, Int.mul_comm k S] at h2
  omega
set_option maxRecDepth 20000 in
set_option maxHeartbeats 3200000 in
theorem even_ok (h : Si w A n c xs) (he : wErr n xs = 0) (k1 : 1 ≤ k) (k2 : k ≤ 1000) (s1 : 0 ≤ start) (s2 : start < wsum xs n) :
    Calls Try.prog 19 #[.slice A n c, .int .i64 k, .int .i64 start] w (EvenRet w n (evenTo xs (wsum xs n) k start n k.toNat)) := by
  obtain ⟨b1, b2, b3, b4, b5⟩ := wErr_zero h.ilen he
  have hm := h.len_max
  obtain ⟨S, hS⟩ : ∃ S, wsum xs n = S := ⟨_, rfl⟩
  have HV := hide (show wVal n xs = S by rw [wVal, if_pos he, hS])
  have HS := hide hS
  rw [hS] at s2 ⊢
  have H := hide he
  have HB3 := hide b3
  have HL := hide h.ilen
  have hb := wsum_bound b3 (b := n) (by rw [HL.out]; exact Nat.le_refl _)
  rw [hS] at hb
  obtain ⟨S0, S1⟩ := hb
  have S2 : S ≤ 40000000000000 := by omega
  obtain ⟨kn, rfl⟩ := Int.eq_ofNat_of_zero_le (show 0 ≤ k by omega)
  rw [Int.toNat_natCast]
  clear he hS b2 b5 b3 S1
  go_enter Try.func19, Try.ntmps19
  go_wp2_with fail
  refine (weights_is h HV.out H.out).mono ?_
  rintro e w1 ⟨rfl, hb1⟩
  have zw := hb1.size
  go_wp2_with (at_make; refine wpList_make_sl T_int rfl rfl _ _ rfl (by rfl) (by rfl) (by omega) (by simp only [maxLen]; omega) ?_; intro w2 own2 hb2; rw [ints_zero, ← evenTo_zero xs S kn start n] at own2)
  have k12 := below_on hb1 hb2
  refine (sums_any (h.on k12) b1 HB3.out).mono ?_
  rintro e w3 ⟨A3, c3, rfl, own3, hb3⟩
  have k13 := below_on k12 hb3
  have z3 := hb3.size
  have own2b := own2.below hb3 (Nat.le_refl _)
  have hlt2 : w1.heap.size < w2.heap.size := by
    obtain ⟨g, hg, _, hlt⟩ := own2.addr b4
    injection hg with hg
    injection hg with hg
    omega
  have ap3 := own3.apart_low hlt2
  have own3b := own3.mono (Nat.le_of_lt hlt2)
  clear own2 own3 hb2 hb3 k12
  go_wp2_with fail
  go_loopw [12, 43] (fun vi vj wr => ∃ i j : Nat, i < n ∧ j ≤ kn ∧ vi = .int .i64 i ∧ vj = .int .i64 j ∧ wsum xs i * kn ≤ start + (j : Int) * S ∧
      Own wr w1.heap.size 3 1 (some ⟨w1.heap.size, 0, none⟩) n n (ints (evenTo xs S kn start n j)) ∧ Own wr w1.heap.size 3 1 A3 n c3 (ints (sumsOf n xs)) ∧ Below w.heap.size w wr) (fun _ j _ => kn - (intOf j).toNat)
  case atStart => exact ⟨0, 0, b4, Nat.zero_le _, rfl, rfl, by simp [wsum, s1], own2b, own3b, k13⟩
  case round =>
    clear own2b own3b k13
    obtain ⟨i, j, hi, hj, rfl, rfl, hat, own, ows, hb⟩ := hrel
    have HAT := hide hat
    clear hat
    by_cases hlt : j < kn
    · have hP := even_point (S := S) (k := kn) (j := j) s2 (by omega) S0
      have hj0 : 0 ≤ (j : Int) * S ∧ (j : Int) * S ≤ 40000000000000000 := by
        have g1 : (j : Int) * S ≤ 1000 * 40000000000000 := Int.mul_le_mul (by omega) S2 S0 (by decide)
        have g2 : 0 ≤ (j : Int) * S := Int.mul_nonneg (by omega) S0
        omega
      obtain ⟨J, hJ⟩ : ∃ J, (j : Int) * S = J := ⟨_, rfl⟩
      have HJ := hide hJ
      rw [hJ] at hP hj0 HAT
      obtain ⟨j1, j2⟩ := hj0
      have HP := hide hP
      have hs39 : start ≤ 40000000000000 := by omega
      clear hP
      obtain ⟨wo, rfl⟩ : ∃ wo : World, wo = wr := ⟨_, rfl⟩
      have own0 := own
      have ows0 := ows
      clear own ows
      go_wp2_with fail
      go_loop [12] (fun vi => ∃ i : Nat, i < n ∧ vi = .int .i64 i ∧ wsum xs i * kn ≤ start + J) (fun i => n - (intOf i).toNat)
      case atStart => exact ⟨i, hi, rfl, HAT.out⟩
      case round =>
        clear hi HAT
        obtain ⟨i, hi, rfl, hat⟩ := hrel
        have HAT := hide hat
        clear hat
        obtain ⟨g1, g2⟩ := wsum_bound HB3.out (b := i + 1) (by rw [HL.out]; omega)
        have g3 : wsum xs (i + 1) ≤ 40000000000000 := by omega
        have hp0 : 0 ≤ wsum xs (i + 1) * kn ∧ wsum xs (i + 1) * kn ≤ 40000000000000000 := by
          have g4 : wsum xs (i + 1) * kn ≤ 40000000000000 * 1000 := Int.mul_le_mul g3 k2 (by omega) (by decide)
          have g5 : 0 ≤ wsum xs (i + 1) * kn := Int.mul_nonneg g1 (by omega)
          omega
        obtain ⟨p1, p2⟩ := hp0
        obtain ⟨ae, y, eA, hbe, hy, hcy⟩ := ows0.sl.icell hi
        rw [sumsOf_at hi] at hy
        injection hy with hy
        subst hy
        subst eA
        by_cases hle : wsum xs (i + 1) * kn ≤ start + J
        · have hi2 : i + 1 < n := by
            rcases Nat.lt_or_ge (i + 1) n with q | q
            · exact q
            · exfalso
              have e : i + 1 = n := by omega
              have h1 := HP.out
              rw [e, HS.out] at hle
              omega
          have HN := hide hle
          obtain ⟨T, hT⟩ : ∃ T, wsum xs (i + 1) = T := ⟨_, rfl⟩
          rw [hT] at g1 g2 g3 p1 p2 hcy hle
          clear hT
          go_wp2_with fail
          go_round
          case rel => exact ⟨i + 1, hi2, by go_num, HN.out⟩
          case measure => simp [intOf]; omega
        · have HE := hide (evenTo_next (start := start) (all := S) (j := j) HL.out HB3.out (k := kn) (by omega) hi (by rw [HJ.out]; exact HAT.out) (by rw [HJ.out]; omega))
          have hcell := own0.cell (j := i) (by rw [ints_getElem?, evenTo_at hi]; rfl)
          have hfr := own0.free i
          have c1 := cnt_nonneg start S (wsum xs (i + 1) * kn) j
          have c2 := cnt_nonneg start S (wsum xs i * kn) j
          obtain ⟨v, hv⟩ : ∃ v, cnt start S (wsum xs (i + 1) * kn) j - cnt start S (wsum xs i * kn) j = v := ⟨_, rfl⟩
          have v1 : -1000 ≤ v := by omega
          have v2 : v ≤ 1000 := by omega
          rw [hv] at hcell HE
          clear c1 c2 hv
          have HN := hide (show wsum xs i * kn ≤ start + ((j + 1 : Nat) : Int) * S by
            have h1 := HAT.out
            have h2 : ((j + 1 : Nat) : Int) * S = J + S := by rw [Int.natCast_add, Int.add_mul, HJ.out]; simp
            rw [h2]; omega)
          obtain ⟨T, hT⟩ : ∃ T, wsum xs (i + 1) = T := ⟨_, rfl⟩
          rw [hT] at g1 g2 g3 p1 p2 hcy hle
          clear hT
          have hJv := HJ.out
          go_wp2_with fail
          go_roundw
          case rel =>
            refine ⟨i, j + 1, hi, by omega, rfl, by go_num, HN.out, ?_, ?_, below_set hb zw _⟩
            · rw [HE.out, ints_set]
              exact own0.set i _
            · exact ows0.far (fun g hg e => ap3 g (by rw [hg]; rfl) (by rw [e]; rfl)) _
          case measure => simp [intOf]; omega
    · obtain rfl : j = kn := by omega
      go_wp2_with fail
      go_ret2
      exact ⟨_, _, rfl, own.mono zw, hb⟩
end
end Go.Proofs.Ytjmkejindmgckaa
