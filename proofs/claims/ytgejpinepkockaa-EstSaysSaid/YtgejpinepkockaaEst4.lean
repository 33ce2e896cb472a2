/-
  est.Spread and culref.Spread: the walks. Conditions: the slices read as lists of numbers.
-/
import Derived.Test.YtgejpinepkockaaEst3
import Derived.Test.YtgejpinepkockaaFunc
namespace Go.Proofs.Ytgejpinepkockaa
open Go.RowKit

def big (x : Int) : Bool := !inR x (-1000000) 1000000
def spreadTo (vs ls : List Int) : Nat → Int
  | 0 => 0
  | k + 1 => spreadTo vs ls k + vs.getD k 0 * vs.getD k 0 * (2 ^ (ls.getD k 0).toNat - 1)
def spOk (vs ls : List Int) (k : Nat) : Bool := decide (spreadTo vs ls (k + 1) ≤ 1152921504606846976)
def spErr (n m : Nat) (vs ls : List Int) : Int := if estErr n m vs ls ≠ 0 then estErr n m vs ls else if noneTo big vs n = false then 1 else if okTo (spOk vs ls) n = true then 0 else 2
def spVal (n m : Nat) (vs ls : List Int) : Int := if spErr n m vs ls = 0 then spreadTo vs ls n else 0
theorem spVal_bad {n m : Nat} {vs ls : List Int} (h : ¬ spErr n m vs ls = 0) : spVal n m vs ls = 0 := by unfold spVal; rw [if_neg h]
theorem spread_next {vs ls : List Int} {k l : Nat} {v : Int} (hv : vs[k]? = some v) (hl : ls[k]? = some (l : Int)) : spreadTo vs ls (k + 1) = spreadTo vs ls k + v * v * (2 ^ l - 1) := by
  rw [spreadTo, getD_of hv, getD_of hl, Int.toNat_natCast]
theorem sq_bounds {v : Int} (v1 : -1000000 ≤ v) (v2 : v ≤ 1000000) : 0 ≤ v * v ∧ v * v ≤ 1000000000000 := by
  have h1 : v.natAbs ≤ 1000000 := by omega
  have h2 : v.natAbs * v.natAbs ≤ 1000000 * 1000000 := Nat.mul_le_mul h1 h1
  have h3 : v * v = ((v.natAbs * v.natAbs : Nat) : Int) := by rw [Int.natCast_mul]; exact (Int.natAbs_mul_self' v).symm
  rw [h3]; omega
theorem sp_bounds {v : Int} {l : Nat} (h : l ≤ 20) (v1 : -1000000 ≤ v) (v2 : v ≤ 1000000) : 0 ≤ v * v * (2 ^ l - 1) ∧ v * v * (2 ^ l - 1) ≤ 1048576000000000000 := by
  obtain ⟨p1, p2⟩ := pow_bounds h
  obtain ⟨s1, s2⟩ := sq_bounds v1 v2
  have a : v * v * (2 ^ l - 1) ≤ 1000000000000 * (2 ^ l - 1) := Int.mul_le_mul_of_nonneg_right s2 (by omega)
  have b : 0 ≤ v * v * (2 ^ l - 1) := Int.mul_nonneg s1 (by omega)
  omega
theorem sq_pow_bounds {v : Int} {l : Nat} (h : l ≤ 20) (v1 : -1000000 ≤ v) (v2 : v ≤ 1000000) : 0 ≤ v * v * 2 ^ l ∧ v * v * 2 ^ l ≤ 1048576000000000000 := by
  obtain ⟨p1, p2⟩ := pow_bounds h
  obtain ⟨s1, s2⟩ := sq_bounds v1 v2
  have a : v * v * 2 ^ l ≤ 1000000000000 * 2 ^ l := Int.mul_le_mul_of_nonneg_right s2 (by omega)
  have b : 0 ≤ v * v * 2 ^ l := Int.mul_nonneg s1 (by omega)
  omega
theorem big_no {vs : List Int} {k n : Nat} {v : Int} (h : noneTo big vs n = true) (hk : k < n) (hv : vs[k]? = some v) : -1000000 ≤ v ∧ v ≤ 1000000 := by
  have h1 := okTo_at n h hk
  simp only [getD_of hv, big, Bool.not_not, inR, decide_eq_true_eq] at h1
  exact h1
theorem sp_step (v : Int) (j : Nat) (r : Int) : r - v * v * (2 ^ j - 1) - v * v * 2 ^ j = r - v * v * (2 ^ (j + 1) - 1) := by
  have e : (2 : Int) ^ (j + 1) - 1 = (2 ^ j - 1) + 2 ^ j := by rw [Int.pow_succ]; omega
  rw [e, Int.mul_add]; omega
theorem spreadTo_le {vs ls : List Int} : ∀ k n, k ≤ n → okTo (spOk vs ls) n = true → spreadTo vs ls k ≤ 1152921504606846976
  | 0, _, _, _ => by simp [spreadTo]
  | k + 1, n, hk, h => by
    have h1 := okTo_at n h (show k < n by omega)
    simpa [spOk] using h1

theorem spreadTo_pos {vs ls : List Int} {n : Nat} (h1 : okTo (estOk vs ls) n = true) (h2 : noneTo big vs n = true) (e1 : vs.length = n) (e2 : ls.length = n) : ∀ k, k ≤ n → 0 ≤ spreadTo vs ls k
  | 0, _ => by simp [spreadTo]
  | k + 1, hk => by
    have ih := spreadTo_pos h1 h2 e1 e2 k (by omega)
    have hv := getD_at (l := vs) (k := k) (by omega)
    have hl := getD_at (l := ls) (k := k) (by omega)
    obtain ⟨v1, v2⟩ := big_no h2 (show k < n by omega) hv
    obtain ⟨_, _, l0, l1⟩ := estOk_true hv hl (okTo_at n h1 (by omega))
    have h3 := (sp_bounds (l := (ls.getD k 0).toNat) (by omega) v1 v2).1
    rw [spreadTo]
    omega

theorem big_answers : Answers 87 big where
  enters := enters_of Try.func87 (by kernel_rfl) rfl
  does := by
    intro x W
    go_enter Try.func87, Try.ntmps87
    go_wp2_with fail
    refine (within_any _ _ _ _).mono ?_
    rintro e w' ⟨rfl, rfl⟩
    go_wp2_with fail
    go_ret
    exact ⟨rfl, rfl⟩

section
variable {A1 A2 : Option Addr} {n1 c1 n2 c2 : Nat} {vs ls : List Int} {w : World}
set_option maxRecDepth 20000 in
set_option maxHeartbeats 1600000 in
theorem estSpread_any (h1 : Si w A1 n1 c1 vs) (h2 : Si w A2 n2 c2 ls) :
    Calls Try.prog 29 #[.slice A1 n1 c1, .slice A2 n2 c2] w fun e w' => e = .returned (.tuple #[.int .i64 (spVal n1 n2 vs ls), .int .i64 (spErr n1 n2 vs ls)]) ∧ Below w.heap.size w w' := by
  have hm1 := h1.len_max
  by_cases g0 : estErr n1 n2 vs ls = 0
  · obtain ⟨g1, g2, g3⟩ := estErr_zero g0
    have g2' := g2.symm
    subst g2'
    have H := hide g0
    have HOK := hide g3
    have E := hide (show spErr n1 n1 vs ls = if noneTo big vs n1 = false then 1 else if okTo (spOk vs ls) n1 = true then 0 else 2 by unfold spErr; rw [if_neg (by simpa using g0)])
    clear g0 g3 g2
    go_enter Try.func29, Try.ntmps29
    go_wp2_with fail
    refine (look_is h1 h2 H.out).mono ?_
    rintro e w1 ⟨rfl, hb1⟩
    go_wp2_with fail
    go_loopw [20] (fun i wr => ∃ k : Nat, k ≤ n1 ∧ i = .int .i64 k ∧ noneTo big vs k = true ∧ Below w.heap.size w wr) (fun i _ => n1 - (intOf i).toNat)
    case atStart => exact ⟨0, Nat.zero_le _, rfl, rfl, hb1⟩
    case round =>
      obtain ⟨k, hk, rfl, hno, hwr⟩ := hrel
      have HNO := hide hno
      clear hno
      by_cases hlt : k < n1
      · obtain ⟨ad, v, rfl, hb, hv, hc⟩ := (h1.on hwr).icell hlt
        have HV := hide hv
        clear hv
        by_cases a0 : -1000000 ≤ v ∧ v ≤ 1000000
        · have HN := hide (noneTo_next HNO.out HV.out (by rw [big, inR_yes a0]; rfl))
          obtain ⟨a1, a2⟩ := a0
          go_wp2
          go_roundw
          case rel => exact ⟨k + 1, by omega, by go_num, HN.out, by repeat' (first | assumption | with_reducible exact Below.refl _ _ | with_reducible apply Below.drew | with_reducible apply below_drewN | with_reducible apply below_alloc | with_reducible refine below_set ?_ ?_ _ | (simp only [World.size_alloc, World.heap_drewN]; omega) | (simp; omega))⟩
          case measure => simp [intOf]; omega
        · have e1 : spErr n1 n1 vs ls = 1 := by rw [E.out, if_pos (noneTo_bad HV.out (by rw [big, inR_no a0]; rfl) hlt)]
          have B := hide e1
          have B2 := hide (spVal_bad (show ¬ spErr n1 n1 vs ls = 0 by rw [e1]; decide))
          clear e1
          by_cases a1 : v < -1000000
          · clear a0
            go_wp2
            go_ret2
            exact ⟨by rw [B.out, B2.out]; rfl, hwr⟩
          · have a2 : 1000000 < v := by omega
            clear a0
            go_wp2
            go_ret2
            exact ⟨by rw [B.out, B2.out]; rfl, hwr⟩
      · obtain rfl : k = n1 := by omega
        have E2 := hide (show spErr k k vs ls = if okTo (spOk vs ls) k = true then 0 else 2 by rw [E.out, if_neg (by rw [HNO.out]; simp)])
        obtain ⟨wo, rfl⟩ : ∃ wo : World, wo = wr := ⟨_, rfl⟩
        obtain ⟨n, rfl⟩ : ∃ n : Nat, n = k := ⟨_, rfl⟩
        go_wp2
        go_loopw [9, 33] (fun o i wr => ∃ k : Nat, k ≤ n ∧ i = .int .i64 k ∧ o = .int .i64 (spreadTo vs ls k) ∧ okTo (spOk vs ls) k = true ∧ Below w.heap.size w wr) (fun _ i _ => n - (intOf i).toNat)
        case atStart => exact ⟨0, Nat.zero_le _, rfl, rfl, rfl, hwr⟩
        case round =>
          clear hwr
          obtain ⟨k, hk, rfl, rfl, hok, hwr⟩ := hrel
          have HSP := hide hok
          clear hok
          by_cases hlt : k < n
          · obtain ⟨ad, v, rfl, hb, hv, hc⟩ := (h1.on hwr).icell hlt
            obtain ⟨ae, l, rfl, hbe, hl, hd⟩ := (h2.on hwr).icell hlt
            obtain ⟨v1, v2⟩ := big_no HNO.out hlt hv
            obtain ⟨_, _, l0, l1⟩ := estOk_true hv hl (okTo_at n HOK.out hlt)
            obtain ⟨ln, rfl⟩ := Int.eq_ofNat_of_zero_le l0
            have l2 : ln ≤ 20 := by omega
            obtain ⟨p1, p2⟩ := pow_bounds l2
            obtain ⟨p3, p4⟩ := sq_bounds v1 v2
            obtain ⟨p5, p6⟩ := sp_bounds l2 v1 v2
            have hs1 := spreadTo_le k k (Nat.le_refl _) HSP.out
            have hs0 := spreadTo_pos HOK.out HNO.out h1.ilen h2.ilen k (by omega)
            have HNX := hide (spread_next hv hl)
            clear hv hl
            obtain ⟨s, hs⟩ : ∃ s, s = spreadTo vs ls k := ⟨_, rfl⟩
            rw [← hs] at hs0 hs1 HNX ⊢
            clear hs
            by_cases a1 : 1152921504606846976 < s + v * v * (2 ^ ln - 1)
            · have e1 : spErr n n vs ls = 2 := by rw [E2.out, if_neg]; rw [okTo_bad (k := k) (by unfold spOk; rw [HNX.out]; simp; omega) n hlt]; simp
              have B := hide e1
              have B2 := hide (spVal_bad (show ¬ spErr n n vs ls = 0 by rw [e1]; decide))
              clear e1
              go_wp2
              go_ret2
              exact ⟨by rw [B.out, B2.out]; rfl, hwr⟩
            · have HN := hide (okTo_next HSP.out (show spOk vs ls k = true by unfold spOk; rw [HNX.out]; simp; omega))
              go_wp2
              go_roundw
              case rel => exact ⟨k + 1, by omega, by go_num, by rw [HNX.out], HN.out, by repeat' (first | assumption | with_reducible exact Below.refl _ _ | with_reducible apply Below.drew | with_reducible apply below_drewN | with_reducible apply below_alloc | with_reducible refine below_set ?_ ?_ _ | (simp only [World.size_alloc, World.heap_drewN]; omega) | (simp; omega))⟩
              case measure => simp [intOf]; omega
          · obtain rfl : k = n := by omega
            have e1 : spErr k k vs ls = 0 := by rw [E2.out, if_pos HSP.out]
            have B := hide e1
            have B2 := hide (show spVal k k vs ls = spreadTo vs ls k by unfold spVal; rw [if_pos e1])
            clear e1
            go_wp2
            go_ret2
            exact ⟨by rw [B.out, B2.out]; rfl, hwr⟩
  · obtain ⟨E, hE⟩ : ∃ E, estErr n1 n2 vs ls = E := ⟨_, rfl⟩
    have e1 : spErr n1 n2 vs ls = E := by unfold spErr; rw [if_pos g0, hE]
    rw [hE] at g0
    have HE := hide e1
    have HE2 := hide (spVal_bad (n := n1) (m := n2) (vs := vs) (ls := ls) (by rw [e1]; exact g0))
    have H := hide hE
    have t1 : (E != 0) = true := by simp [g0]
    clear e1 hE g0
    go_enter Try.func29, Try.ntmps29
    go_wp2_with fail
    refine (look_is h1 h2 H.out).mono ?_
    rintro e w1 ⟨rfl, hb1⟩
    go_wp2_with fail
    go_ret2
    exact ⟨by rw [HE.out, HE2.out]; rfl, hb1⟩
end
end Go.Proofs.Ytgejpinepkockaa
