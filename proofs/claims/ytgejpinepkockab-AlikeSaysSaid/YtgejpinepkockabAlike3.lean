/-
  culref.First, alike.Same: the walks. Conditions: the slices read as lists of numbers.
-/
import Derived.Test.YtgejpinepkockabAlike2
namespace Go.Proofs.Ytgejpinepkockab
open Go.RowKit

theorem dig_all {m : Nat} {os : List Int} (hl : os.length = m) (h : digTo m os m = 0) : os.Nodup ∧ ∀ x ∈ os, 0 ≤ x ∧ x < (m : Int) := by
  have := dig_nodup hl h m (Nat.le_refl _)
  rwa [List.take_of_length_le (by omega)] at this
theorem best_eq {os ls : List Int} {n m : Nat} (ho : os.length = m) (hd : digTo m os m = 0) (hl : ls.length = n) (h : eTo (thStep m ls) n = 0) {j : Nat} {x a : Int} (hj : j < n) (hx : ls[j]? = some x) (ha : os.getD x.toNat 0 = a)
    (hall : ∀ (i : Nat) (y : Int), ls[i]? = some y → a ≤ os.getD y.toNat 0) : x = bestTo os ls n := by
  obtain ⟨⟨i, hi, hb⟩, h2⟩ := bestTo_is (os := os) hl h n (Nat.le_refl _) (by omega)
  have h3 := h2 j x hj hx
  have h4 := hall i _ hb
  have b1 := th_in h hi hb
  have x1 := th_in h hj hx
  have e : os[(bestTo os ls n).toNat]? = os[x.toNat]? := by
    rw [getD_at (l := os) (k := (bestTo os ls n).toNat) (by omega), getD_at (l := os) (k := x.toNat) (by omega)]
    congr 1
    omega
  have := (List.getElem?_inj (show (bestTo os ls n).toNat < os.length by omega) (dig_all ho hd).1).1 e
  omega
theorem none_left {os ls : List Int} {n m : Nat} (ho : os.length = m) (hd : digTo m os m = 0) (hl : ls.length = n) (h : eTo (thStep m ls) n = 0) (hall : ∀ (i : Nat) (y : Int), ls[i]? = some y → (m : Int) ≤ os.getD y.toNat 0) : n = 0 := by
  rcases Nat.eq_zero_or_pos n with e | e
  · exact e
  · exfalso
    have hx := getD_at (l := ls) (k := 0) (by omega)
    have h1 := th_in h e hx
    have h2 := hall 0 _ hx
    have hy := getD_at (l := os) (k := (ls.getD 0 0).toNat) (by omega)
    have h3 := (dig_all ho hd).2 _ (List.mem_of_getElem? hy)
    omega
def sameTo (xs ys : List Int) : Nat → Int
  | 0 => 0
  | k + 1 => sameTo xs ys k + if xs.getD k 0 = ys.getD k 0 then 1 else 0
theorem sameTo_in (xs ys : List Int) : ∀ k, 0 ≤ sameTo xs ys k ∧ sameTo xs ys k ≤ k
  | 0 => by simp [sameTo]
  | k + 1 => by
    have := sameTo_in xs ys k
    rw [sameTo]
    split <;> omega
theorem sameTo_next {xs ys : List Int} {k : Nat} {x y : Int} (hx : xs[k]? = some x) (hy : ys[k]? = some y) : sameTo xs ys (k + 1) = sameTo xs ys k + if x = y then 1 else 0 := by rw [sameTo, getD_of hx, getD_of hy]
def sErr (n m : Nat) : Int := if 40 < n ∨ 40 < m then 2 else if n ≠ m then 7 else 0
def sVal (n m : Nat) (xs ys : List Int) : Int := if sErr n m = 0 then sameTo xs ys n else 0
section
variable {A B : Option Addr} {n c m d : Nat} {ls os xs ys : List Int} {w : World}
set_option maxRecDepth 20000 in
set_option maxHeartbeats 1600000 in
theorem rfirst_any (h : Si w A n c ls) (ho : Si w B m d os) :
    Calls Try.prog 27 #[.slice B m d, .slice A n c] w fun e w' => e = .returned (.tuple #[.int .i64 (fVal m n os ls), .int .i64 (fErr m n os ls)]) ∧ w = w' := by
  have hm := h.len_max
  have hm2 := ho.len_max
  by_cases e1 : digErr m os = 0
  · obtain ⟨g1, g4⟩ := digErr_zero e1
    by_cases e2 : thErr n m ls = 0
    · obtain ⟨g2, g3⟩ := thErr_zero e2
      have H1 := hide e1
      have H2 := hide e2
      have HTH := hide g3
      have HDG := hide g4
      have HL := hide h.ilen
      have HO := hide ho.ilen
      have HE := hide (fun (n0 : n ≠ 0) => fErr_0 (os := os) e1 e2 n0)
      have HE4 := hide (fun (n0 : n = 0) => fErr_4 (os := os) e1 e2 n0)
      have HV := hide (fun (n0 : n ≠ 0) => (show fVal m n os ls = bestTo os ls n by unfold fVal; rw [if_pos (HE.out n0)]))
      have HV4 := hide (fun (n0 : n = 0) => (show fVal m n os ls = 0 by unfold fVal; rw [if_neg (by rw [HE4.out n0]; decide)]))
      clear e1 e2 g3 g4
      go_enter Try.func27, Try.ntmps27
      go_wp2_with fail
      refine (order_is ho H1.out).mono ?_
      rintro e w1 ⟨rfl, rfl⟩
      go_wp2_with fail
      refine (things_is h g1 H2.out).mono ?_
      rintro e w2 ⟨rfl, rfl⟩
      go_wp2_with fail
      go_loop [25] (fun i => ∃ a : Nat, a ≤ m ∧ i = .int .i64 a ∧ ∀ (i : Nat) (y : Int), ls[i]? = some y → (a : Int) ≤ os.getD y.toNat 0) (fun i => m - (intOf i).toNat)
      case atStart =>
        refine ⟨0, Nat.zero_le _, rfl, fun i y hy => ?_⟩
        have hi := (List.getElem?_eq_some_iff.1 hy).1
        have hb := th_in HTH.out (show i < n by rw [← HL.out]; exact hi) hy
        have hz := getD_at (l := os) (k := y.toNat) (by rw [HO.out]; omega)
        exact (dig_all HO.out HDG.out).2 _ (List.mem_of_getElem? hz) |>.1
      case round =>
        obtain ⟨a, ha, rfl, hall⟩ := hrel
        have HA := hide hall
        clear hall
        by_cases hlt : a < m
        · go_wp2_with fail
          go_loop [30] (fun i => ∃ j : Nat, j ≤ n ∧ i = .int .i64 j ∧ ∀ (i : Nat) (y : Int), i < j → ls[i]? = some y → os.getD y.toNat 0 ≠ (a : Int)) (fun i => n - (intOf i).toNat)
          case atStart => exact ⟨0, Nat.zero_le _, rfl, fun i y hi => absurd hi (Nat.not_lt_zero _)⟩
          case round =>
            obtain ⟨j, hj, rfl, hno⟩ := hrel
            have HN := hide hno
            clear hno
            by_cases hjn : j < n
            · obtain ⟨ad, x, rfl, hbk, hx, hc⟩ := h.icell hjn
              obtain ⟨x0, x1⟩ := th_in HTH.out hjn hx
              obtain ⟨ae, o, rfl, hbe, ho2, hco⟩ := ho.icell (j := x.toNat) (by omega)
              have HX := hide hx
              have HOX := hide (show os.getD x.toNat 0 = o from getD_of ho2)
              clear hx ho2
              by_cases hoa : o = (a : Int)
              · have t1 : (o == (a : Int)) = true := by simp [hoa]
                have HB := hide (best_eq HO.out HDG.out HL.out HTH.out hjn HX.out (HOX.out.trans hoa) HA.out)
                clear hoa
                have n0 : n ≠ 0 := by omega
                have HE1 := hide (HE.out n0)
                have HV1 := hide (HV.out n0)
                clear n0
                go_wp2_with fail
                go_ret2
                exact ⟨by rw [HE1.out, HV1.out, ← HB.out]; rfl, rfl⟩
              · have t1 : (o == (a : Int)) = false := by simpa using hoa
                have HM := hide (show ∀ (i : Nat) (y : Int), i < j + 1 → ls[i]? = some y → os.getD y.toNat 0 ≠ (a : Int) from fun i y hi hy => by
                  by_cases e : i = j
                  · subst e; rw [HX.out] at hy; injection hy with hy; subst hy; rw [HOX.out]; exact hoa
                  · exact HN.out i y (by omega) hy)
                clear hoa
                go_wp2_with fail
                go_round
                case rel => exact ⟨j + 1, by omega, by go_num, HM.out⟩
                case measure => simp [intOf]; omega
            · obtain rfl : j = n := by omega
              have HM := hide (show ∀ (i : Nat) (y : Int), ls[i]? = some y → ((a + 1 : Nat) : Int) ≤ os.getD y.toNat 0 from fun i y hy => by
                have h1 := HA.out i y hy
                have h2 := HN.out i y (by rw [← HL.out]; exact (List.getElem?_eq_some_iff.1 hy).1) hy
                omega)
              go_wp2_with fail
              go_round
              case rel => exact ⟨a + 1, by omega, by go_num, HM.out⟩
              case measure => simp [intOf]; omega
        · obtain rfl : a = m := by omega
          have n0 := none_left HO.out HDG.out HL.out HTH.out HA.out
          have HE1 := hide (HE4.out n0)
          have HV1 := hide (HV4.out n0)
          clear n0
          go_wp2_with fail
          go_ret2
          exact ⟨by rw [HE1.out, HV1.out]; rfl, rfl⟩
    · have hE := fErr_2 (os := os) e1 e2
      have hV : fVal m n os ls = 0 := by unfold fVal; rw [if_neg (by rw [hE]; exact e2)]
      rw [hE, hV]
      obtain ⟨E, hEE⟩ : ∃ E, thErr n m ls = E := ⟨_, rfl⟩
      rw [hEE] at e2 ⊢
      have t1 : (E != 0) = true := by simpa using e2
      have H1 := hide e1
      have H2 := hide hEE
      clear e1 e2 hE hV hEE g4
      go_enter Try.func27, Try.ntmps27
      go_wp2_with fail
      refine (order_is ho H1.out).mono ?_
      rintro e w1 ⟨rfl, rfl⟩
      go_wp2_with fail
      refine (things_is h g1 H2.out).mono ?_
      rintro e w2 ⟨rfl, rfl⟩
      go_wp2_with fail
      go_ret2
      exact ⟨rfl, rfl⟩
  · have hE := fErr_1 (n := n) (ls := ls) e1
    have hV : fVal m n os ls = 0 := by unfold fVal; rw [if_neg (by rw [hE]; exact e1)]
    rw [hE, hV]
    obtain ⟨E, hEE⟩ : ∃ E, digErr m os = E := ⟨_, rfl⟩
    rw [hEE] at e1 ⊢
    have t1 : (E != 0) = true := by simpa using e1
    have H1 := hide hEE
    clear e1 hE hV hEE
    go_enter Try.func27, Try.ntmps27
    go_wp2_with fail
    refine (order_is ho H1.out).mono ?_
    rintro e w1 ⟨rfl, rfl⟩
    go_wp2_with fail
    go_ret2
    exact ⟨rfl, rfl⟩
set_option maxRecDepth 20000 in
set_option maxHeartbeats 1600000 in
theorem same_any (h : Si w A n c xs) (hk : Si w B m d ys) :
    Calls Try.prog 25 #[.slice A n c, .slice B m d] w fun e w' => e = .returned (.tuple #[.int .i64 (sVal n m xs ys), .int .i64 (sErr n m)]) ∧ Below w.heap.size w w' := by
  have hm := h.len_max
  have hm2 := hk.len_max
  by_cases g1 : 40 < n
  · have hE : sErr n m = 2 := if_pos (.inl g1)
    have hV : sVal n m xs ys = 0 := by unfold sVal; rw [hE, if_neg (by decide)]
    rw [hE, hV]
    clear hE hV
    go_enter Try.func25, Try.ntmps25
    go_wp2_with fail
    go_ret2
    exact ⟨rfl, Below.refl _ _⟩
  by_cases g2 : 40 < m
  · have hE : sErr n m = 2 := if_pos (.inr g2)
    have hV : sVal n m xs ys = 0 := by unfold sVal; rw [hE, if_neg (by decide)]
    rw [hE, hV]
    clear hE hV
    go_enter Try.func25, Try.ntmps25
    go_wp2_with fail
    go_ret2
    exact ⟨rfl, Below.refl _ _⟩
  by_cases g3 : n = m
  · subst g3
    have hE : sErr n n = 0 := by unfold sErr; rw [if_neg (by omega), if_neg (by simp)]
    have hV : sVal n n xs ys = sameTo xs ys n := by unfold sVal; rw [hE, if_pos rfl]
    rw [hE, hV]
    clear hE hV
    go_enter Try.func25, Try.ntmps25
    go_wp2_with fail
    go_loopw [6, 23] (fun o i wr => ∃ k q : Nat, k ≤ n ∧ i = .int .i64 k ∧ o = .int .i64 (sameTo xs ys k) ∧ wr = w.drewN q) (fun _ i _ => n - (intOf i).toNat)
    case atStart => exact ⟨0, 0, Nat.zero_le _, rfl, rfl, rfl⟩
    case round =>
      obtain ⟨k, q, hk1, rfl, rfl, rfl⟩ := hrel
      obtain ⟨s1, s2⟩ := sameTo_in xs ys k
      by_cases hlt : k < n
      · obtain ⟨ad, x, rfl, hb, hx, hcx⟩ := h.icell hlt
        obtain ⟨ae, y, rfl, hbe, hy, hcy⟩ := hk.icell hlt
        have HN := hide (sameTo_next hx hy)
        clear hx hy
        obtain ⟨S, hS⟩ : ∃ S, sameTo xs ys k = S := ⟨_, rfl⟩
        rw [hS] at s1 s2 HN ⊢
        clear hS
        by_cases hxy : x = y
        · have t1 : (x == y) = true := by simp [hxy]
          have HM := hide (show sameTo xs ys (k + 1) = S + 1 by rw [HN.out, if_pos hxy])
          clear hxy
          go_wp2_with fail
          go_quiet (fail)
          go_wp2_with fail
          go_roundw
          case rel => exact ⟨k + 1, _, by omega, by go_num, by rw [HM.out], rfl⟩
          case measure => simp [intOf]; omega
        · have t1 : (x == y) = false := by simpa using hxy
          have HM := hide (show sameTo xs ys (k + 1) = S by rw [HN.out, if_neg hxy, Int.add_zero])
          clear hxy
          go_wp2_with fail
          go_quiet (fail)
          go_wp2_with fail
          go_roundw
          case rel => exact ⟨k + 1, _, by omega, by go_num, by rw [HM.out], rfl⟩
          case measure => simp [intOf]; omega
      · obtain rfl : k = n := by omega
        go_wp2_with fail
        go_ret2
        exact ⟨rfl, below_drewN (Below.refl _ _) _⟩
  · have hE : sErr n m = 7 := by unfold sErr; rw [if_neg (by omega), if_pos g3]
    have hV : sVal n m xs ys = 0 := by unfold sVal; rw [hE, if_neg (by decide)]
    rw [hE, hV]
    have t1 : ((n : Int) != (m : Int)) = true := by simp; omega
    clear hE hV g3
    go_enter Try.func25, Try.ntmps25
    go_wp2_with fail
    go_ret2
    exact ⟨rfl, Below.refl _ _⟩
end
end Go.Proofs.Ytgejpinepkockab
