/-
  est.Sum and culref.Sum: the walks. Conditions: the slices read as lists of numbers.
-/
import Derived.Test.YtgejpinepkockaaEst
namespace Go.Proofs.Ytgejpinepkockaa
open Go.RowKit

theorem pow_bounds {l : Nat} (h : l ≤ 20) : (1 : Int) ≤ 2 ^ l ∧ (2 : Int) ^ l ≤ 1048576 := by
  have h1 : (2 : Nat) ^ l ≤ 2 ^ 20 := Nat.pow_le_pow_right (by omega) h
  have h2 : 0 < (2 : Nat) ^ l := Nat.pow_pos (by omega)
  have e : ((2 : Int) ^ l) = ((2 ^ l : Nat) : Int) := by simp
  rw [e]
  omega
theorem div_bounds {l : Nat} : (0 : Int) ≤ 72057594037927936 / 2 ^ l ∧ (72057594037927936 : Int) / 2 ^ l ≤ 72057594037927936 := by
  have h2 : (0 : Int) ≤ 2 ^ l := Int.pow_nonneg (by omega)
  exact ⟨Int.ediv_nonneg (by omega) h2, Int.ediv_le_self _ (by omega)⟩
theorem mul_bounds {l : Nat} {v : Int} (h : l ≤ 20) (v1 : -1000000000000 ≤ v) (v2 : v ≤ 1000000000000) : -1048576000000000000 ≤ v * 2 ^ l ∧ v * 2 ^ l ≤ 1048576000000000000 := by
  obtain ⟨p1, p2⟩ := pow_bounds h
  have a : v * 2 ^ l ≤ 1000000000000 * 2 ^ l := Int.mul_le_mul_of_nonneg_right v2 (by omega)
  have b : -1000000000000 * 2 ^ l ≤ v * 2 ^ l := Int.mul_le_mul_of_nonneg_right v1 (by omega)
  omega
/-- The threshold of a level. -/
def lev (l : Nat) : Int := 72057594037927936 - 72057594037927936 / 2 ^ l
def sumTo (vs ls rs : List Int) : Nat → Int
  | 0 => 0
  | k + 1 => if lev (ls.getD k 0).toNat ≤ rs.getD k 0 then wrap64 (sumTo vs ls rs k + vs.getD k 0 * 2 ^ (ls.getD k 0).toNat) else sumTo vs ls rs k
theorem sumTo_hit {vs ls rs : List Int} {k l : Nat} {v r : Int} (hv : vs[k]? = some v) (hl : ls[k]? = some (l : Int)) (hr : rs[k]? = some r) (h : lev l ≤ r) : sumTo vs ls rs (k + 1) = wrap64 (sumTo vs ls rs k + v * 2 ^ l) := by
  rw [sumTo, getD_of hv, getD_of hl, getD_of hr, Int.toNat_natCast, if_pos h]
theorem sumTo_miss {vs ls rs : List Int} {k l : Nat} {r : Int} (hl : ls[k]? = some (l : Int)) (hr : rs[k]? = some r) (h : ¬ lev l ≤ r) : sumTo vs ls rs (k + 1) = sumTo vs ls rs k := by
  rw [sumTo, getD_of hl, getD_of hr, Int.toNat_natCast, if_neg h]
def drawOk (rs : List Int) (k : Nat) : Bool := inR (rs.getD k 0) 0 72057594037927935
def sumErr (n m r : Nat) (vs ls rs : List Int) : Int := if estErr n m vs ls ≠ 0 then estErr n m vs ls else if r ≠ n then 7 else if okTo (drawOk rs) r = true then 0 else 1
def sumVal (n m r : Nat) (vs ls rs : List Int) : Int := if sumErr n m r vs ls rs = 0 then sumTo vs ls rs n else 0

theorem draw_any (x : Int) (w : World) : Calls Try.prog 65 #[.int .i64 x] w fun e w' => e = .returned (.bool (inR x 0 72057594037927935)) ∧ w = w' := by
  go_enter Try.func65, Try.ntmps65
  go_wp2_with fail
  refine (within_any _ _ _ _).mono ?_
  rintro e w' ⟨rfl, rfl⟩
  go_wp2_with fail
  go_ret
  exact ⟨rfl, rfl⟩

theorem halve (j : Nat) : (72057594037927936 : Int) / 2 ^ j / 2 = 72057594037927936 / 2 ^ (j + 1) := by
  rw [Int.ediv_ediv_of_nonneg (Int.pow_nonneg (by omega)), Int.pow_succ]
set_option maxHeartbeats 800000 in
theorem level_any (n : Nat) (hn : n ≤ 1000) (w : World) : Calls Try.prog 62 #[.int .i64 n] w fun e w' => e = .returned (.int .i64 (lev n)) ∧ w = w' := by
  go_enter Try.func62, Try.ntmps62
  go_wp2
  go_loop [3, 5] (fun v i => ∃ k : Nat, k ≤ n ∧ i = .int .i64 k ∧ v = .int .i64 (72057594037927936 / 2 ^ k)) (fun _ i => n - (intOf i).toNat)
  case atStart => exact ⟨0, Nat.zero_le _, rfl, by simp⟩
  case round =>
    obtain ⟨k, hk, rfl, rfl⟩ := hrel
    obtain ⟨p3, p4⟩ := div_bounds (l := k)
    by_cases hlt : k < n
    · go_wp2
      go_round
      case rel => exact ⟨k + 1, by omega, by go_num, by rw [halve]⟩
      case measure => simp [intOf]; omega
    · obtain rfl : k = n := by omega
      go_wp2
      go_ret
      exact ⟨rfl, rfl⟩

section
variable {A1 A2 A3 : Option Addr} {n1 c1 n2 c2 n3 c3 : Nat} {vs ls rs : List Int} {w : World}
theorem look_is {E : Int} (h1 : Si w A1 n1 c1 vs) (h2 : Si w A2 n2 c2 ls) (h : estErr n1 n2 vs ls = E) :
    Calls Try.prog 84 #[.slice A1 n1 c1, .slice A2 n2 c2] w fun e w' => e = .returned (.int .i64 E) ∧ Below w.heap.size w w' := by
  have k := look_any h1 h2; rw [h] at k; exact k
theorem values_is {E : Int} (h1 : Si w A1 n1 c1 vs) (h2 : Si w A2 n2 c2 ls) (h : estErr n1 n2 vs ls = E) :
    Calls Try.prog 85 #[.slice A1 n1 c1, .slice A2 n2 c2] w fun e w' => e = .returned (.int .i64 E) ∧ Below w.heap.size w w' := by
  have k := values_any h1 h2; rw [h] at k; exact k

set_option maxRecDepth 20000 in
set_option maxHeartbeats 1600000 in
theorem estSum_any (h1 : Si w A1 n1 c1 vs) (h2 : Si w A2 n2 c2 ls) (h3 : Si w A3 n3 c3 rs) :
    Calls Try.prog 28 #[.slice A1 n1 c1, .slice A2 n2 c2, .slice A3 n3 c3] w fun e w' =>
      e = .returned (.tuple #[.int .i64 (sumVal n1 n2 n3 vs ls rs), .int .i64 (sumErr n1 n2 n3 vs ls rs)]) ∧ Below w.heap.size w w' := by
  have hm1 := h1.len_max
  have hm3 := h3.len_max
  by_cases g0 : estErr n1 n2 vs ls = 0
  · obtain ⟨g1, g2, g3⟩ := estErr_zero g0
    have g2' := g2.symm
    subst g2'
    have H := hide g0
    have HOK := hide g3
    have E : sumErr n1 n1 n3 vs ls rs = if n3 ≠ n1 then 7 else if okTo (drawOk rs) n3 = true then 0 else 1 := by unfold sumErr; rw [if_neg (by simpa using g0)]
    clear g0 g3 g2
    by_cases g4 : n3 = n1
    · subst g4
      rw [if_neg (by simp)] at E
      have HE := hide E
      clear E
      go_enter Try.func28, Try.ntmps28
      go_wp2_with fail
      refine (look_is h1 h2 H.out).mono ?_
      rintro e w1 ⟨rfl, hb1⟩
      go_wp2_with fail
      go_loopw [9, 25] (fun o i wr => ∃ k : Nat, k ≤ n3 ∧ i = .int .i64 k ∧ okTo (drawOk rs) k = true ∧ o = .int .i64 (sumTo vs ls rs k) ∧ Below w.heap.size w wr) (fun _ i _ => n3 - (intOf i).toNat)
      case atStart => exact ⟨0, Nat.zero_le _, rfl, rfl, rfl, hb1⟩
      case round =>
        obtain ⟨k, hk, rfl, hok, rfl, hwr⟩ := hrel
        have HDO := hide hok
        clear hok
        by_cases hlt : k < n3
        · obtain ⟨ad, v, rfl, hb, hv, hc⟩ := (h1.on hwr).icell hlt
          obtain ⟨ae, l, rfl, hbe, hl, hd⟩ := (h2.on hwr).icell hlt
          obtain ⟨af, r, rfl, hbf, hr, hf⟩ := (h3.on hwr).icell hlt
          obtain ⟨v1, v2, l0, l1⟩ := estOk_true hv hl (okTo_at n3 HOK.out hlt)
          obtain ⟨ln, rfl⟩ := Int.eq_ofNat_of_zero_le l0
          have l2 : ln ≤ 20 := by omega
          obtain ⟨p1, p2⟩ := pow_bounds l2
          obtain ⟨p3, p4⟩ := div_bounds (l := ln)
          obtain ⟨p5, p6⟩ := mul_bounds l2 v1 v2
          have HR := hide hr
          have hit := sumTo_hit hv hl hr
          have miss := sumTo_miss (vs := vs) hl hr
          have HHIT := hide hit
          have HMISS := hide miss
          clear hv hl hr hit miss
          obtain ⟨s, hs⟩ : ∃ s, s = sumTo vs ls rs k := ⟨_, rfl⟩
          rw [← hs] at HHIT HMISS ⊢
          have HS := hide hs
          clear hs
          have bad : ¬ (0 ≤ r ∧ r ≤ 72057594037927935) → Hid (sumErr n3 n3 n3 vs ls rs = 1 ∧ sumVal n3 n3 n3 vs ls rs = 0) := by
            intro hn
            have e1 : sumErr n3 n3 n3 vs ls rs = 1 := by rw [HE.out, okTo_bad (k := k) _ n3 hlt]; simp; unfold drawOk; rw [getD_of HR.out]; exact inR_no hn
            exact hide ⟨e1, by unfold sumVal; rw [e1]; rfl⟩
          by_cases a1 : r < 0
          · have B := bad (by omega)
            clear bad
            go_wp2
            go_ret2
            exact ⟨by rw [B.out.1, B.out.2]; rfl, hwr⟩
          · by_cases a2 : 72057594037927936 ≤ r
            · have B := bad (by omega)
              clear bad
              go_wp2
              go_ret2
              exact ⟨by rw [B.out.1, B.out.2]; rfl, hwr⟩
            · clear bad
              have HN := hide (okTo_next HDO.out (show drawOk rs k = true by unfold drawOk; rw [getD_of HR.out]; exact inR_yes (by omega)))
              by_cases a3 : (72057594037927936 : Int) - 72057594037927936 / 2 ^ ln ≤ r
              · have HT := hide (HHIT.out a3)
                go_wp2
                go_quiet (fail)
                go_wp2
                go_roundw
                case rel => exact ⟨k + 1, by omega, by go_num, HN.out, by rw [HT.out], by repeat' (first | assumption | with_reducible exact Below.refl _ _ | with_reducible apply Below.drew | with_reducible apply below_drewN | with_reducible apply below_alloc | with_reducible refine below_set ?_ ?_ _ | (simp only [World.size_alloc, World.heap_drewN]; omega) | (simp; omega))⟩
                case measure => simp [intOf]; omega
              · have HT := hide (HMISS.out a3)
                go_wp2
                go_roundw
                case rel => exact ⟨k + 1, by omega, by go_num, HN.out, by rw [HT.out], by repeat' (first | assumption | with_reducible exact Below.refl _ _ | with_reducible apply Below.drew | with_reducible apply below_drewN | with_reducible apply below_alloc | with_reducible refine below_set ?_ ?_ _ | (simp only [World.size_alloc, World.heap_drewN]; omega) | (simp; omega))⟩
                case measure => simp [intOf]; omega
        · obtain rfl : k = n3 := by omega
          go_wp2
          go_ret2
          have e1 : sumErr k k k vs ls rs = 0 := by rw [HE.out, if_pos HDO.out]
          have e2 : sumVal k k k vs ls rs = sumTo vs ls rs k := by unfold sumVal; rw [if_pos e1]
          exact ⟨by rw [e1, e2]; rfl, hwr⟩
    · rw [if_pos g4] at E
      have E2 : sumVal n1 n1 n3 vs ls rs = 0 := by unfold sumVal; rw [E]; rfl
      have HE := hide E
      have HE2 := hide E2
      have t1 : ((n3 : Int) != (n1 : Int)) = true := by simp; omega
      clear E E2
      go_enter Try.func28, Try.ntmps28
      go_wp2_with fail
      refine (look_is h1 h2 H.out).mono ?_
      rintro e w1 ⟨rfl, hb1⟩
      go_wp2_with fail
      go_ret2
      exact ⟨by rw [HE.out, HE2.out]; rfl, hb1⟩
  · obtain ⟨E, hE⟩ : ∃ E, estErr n1 n2 vs ls = E := ⟨_, rfl⟩
    have e1 : sumErr n1 n2 n3 vs ls rs = E := by unfold sumErr; rw [if_pos g0, hE]
    rw [hE] at g0
    have e2 : sumVal n1 n2 n3 vs ls rs = 0 := by unfold sumVal; rw [e1, if_neg g0]
    have HE := hide e1
    have HE2 := hide e2
    have H := hide hE
    have t1 : (E != 0) = true := by simp [g0]
    clear e1 e2 hE g0
    go_enter Try.func28, Try.ntmps28
    go_wp2_with fail
    refine (look_is h1 h2 H.out).mono ?_
    rintro e w1 ⟨rfl, hb1⟩
    go_wp2_with fail
    go_ret2
    exact ⟨by rw [HE.out, HE2.out]; rfl, hb1⟩
end
end Go.Proofs.Ytgejpinepkockaa
