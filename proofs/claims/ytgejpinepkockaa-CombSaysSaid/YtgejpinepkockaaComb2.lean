/-
  comb.Check, culref.Comb: the walks. Conditions: the slice reads as a list of numbers.
-/
import Derived.Test.YtgejpinepkockaaComb
import Derived.Test.YtgejpinepkockaaPond
import Derived.Test.YtgejpinepkockaaAlias2
namespace Go.Proofs.Ytgejpinepkockaa
open Go.RowKit

/-- What is wrong with x behind p. -/
def cStep (p x : Int) : Int := if x < 0 then 1 else if 29 < x then 1 else if x ≤ p then 3 else 0
def prevAt (xs : List Int) (k : Nat) : Int := if k = 0 then -1 else xs.getD (k - 1) 0
/-- What is wrong with the first k. -/
def combTo (xs : List Int) : Nat → Int
  | 0 => 0
  | k + 1 => if combTo xs k = 0 then cStep (prevAt xs k) (xs.getD k 0) else combTo xs k
def combErr (n : Nat) (xs : List Int) : Int := if 30 < n then 2 else combTo xs n
theorem combTo_next {xs : List Int} {k : Nat} {x p : Int} (h : combTo xs k = 0) (hx : xs[k]? = some x) (hp : prevAt xs k = p) (hs : cStep p x = 0) : combTo xs (k + 1) = 0 := by
  rw [combTo, if_pos h, getD_of hx, hp, hs]
theorem combTo_bad {xs : List Int} {k : Nat} {x p E : Int} (h : combTo xs k = 0) (hx : xs[k]? = some x) (hp : prevAt xs k = p) (hs : cStep p x = E) (hE : E ≠ 0) : ∀ m, k < m → combTo xs m = E
  | 0, hm => by omega
  | m + 1, hm => by
    by_cases e : k = m
    · subst e; rw [combTo, if_pos h, getD_of hx, hp, hs]
    · have ih := combTo_bad h hx hp hs hE m (by omega)
      rw [combTo, ih, if_neg hE]
theorem prevAt_next {xs : List Int} {k : Nat} {x : Int} (hx : xs[k]? = some x) : prevAt xs (k + 1) = x := by
  unfold prevAt; rw [if_neg (by omega)]; exact getD_of hx
theorem combErr_big {n : Nat} {xs : List Int} (h : 30 < n) : combErr n xs = 2 := if_pos h
theorem combErr_small {n : Nat} {xs : List Int} (h : ¬ 30 < n) : combErr n xs = combTo xs n := if_neg h
theorem cStep_ok {p x : Int} (h1 : ¬ x < 0) (h2 : ¬ 29 < x) (h3 : ¬ x ≤ p) : cStep p x = 0 := by unfold cStep; rw [if_neg h1, if_neg h2, if_neg h3]
theorem cStep_3 {p x : Int} (h1 : ¬ x < 0) (h2 : ¬ 29 < x) (h3 : x ≤ p) : cStep p x = 3 := by unfold cStep; rw [if_neg h1, if_neg h2, if_pos h3]
theorem cStep_1 {p x : Int} (h : x < 0 ∨ 29 < x) : cStep p x = 1 := by
  unfold cStep
  by_cases h1 : x < 0
  · rw [if_pos h1]
  · rw [if_neg h1, if_pos (by omega)]

set_option maxHeartbeats 1600000 in
theorem combCheck_any (A : Option Addr) (n c : Nat) (xs : List Int) (w : World) (h1 : Si w A n c xs) :
    Calls Try.prog 40 #[.slice A n c] w fun e w' => e = .returned (.int .i64 (combErr n xs)) ∧ Below w.heap.size w w' := by
  have hm1 := h1.len_max
  by_cases g1 : 30 < n
  · have E := hide (combErr_big (xs := xs) g1)
    go_enter Try.func40, Try.ntmps40
    go_wp2
    go_ret
    exact ⟨by rw [E.out]; rfl, by repeat' (first | assumption | with_reducible exact Below.refl _ _ | with_reducible apply Below.drew | with_reducible apply below_drewN | with_reducible apply below_alloc | with_reducible refine below_set ?_ ?_ _ | (simp only [World.size_alloc, World.heap_drewN]; omega) | (simp; omega))⟩
  have HE := hide (combErr_small (xs := xs) g1)
  go_enter Try.func40, Try.ntmps40
  go_wp2
  go_loopw [10] (fun i wr => ∃ k : Nat, k ≤ n ∧ i = .int .i64 k ∧ combTo xs k = 0 ∧ ∃ q, wr = w.drewN q) (fun i _ => n - (intOf i).toNat)
  case atStart => exact ⟨0, Nat.zero_le _, rfl, rfl, 0, rfl⟩
  case round =>
    obtain ⟨k, hk, rfl, hok, q, rfl⟩ := hrel
    have HOK := hide hok
    clear hok
    by_cases hlt : k < n
    · obtain ⟨ad, x, rfl, hb, hx, hc⟩ := h1.icell hlt
      have HX := hide hx
      clear hx
      by_cases a1 : x < 0 ∨ 29 < x
      · have B := hide (combTo_bad HOK.out HX.out rfl (cStep_1 a1) (by decide) n hlt)
        rcases a1 with a1 | a1
        · have d1 : decide (x < 0) = true := by simpa using a1
          go_wp2
          go_ret
          exact ⟨by rw [HE.out, B.out]; rfl, by repeat' (first | assumption | with_reducible exact Below.refl _ _ | with_reducible apply Below.drew | with_reducible apply below_drewN | with_reducible apply below_alloc | with_reducible refine below_set ?_ ?_ _ | (simp only [World.size_alloc, World.heap_drewN]; omega) | (simp; omega))⟩
        · have d1 : decide (x < 0) = false := by simp; omega
          go_wp2
          go_ret
          exact ⟨by rw [HE.out, B.out]; rfl, by repeat' (first | assumption | with_reducible exact Below.refl _ _ | with_reducible apply Below.drew | with_reducible apply below_drewN | with_reducible apply below_alloc | with_reducible refine below_set ?_ ?_ _ | (simp only [World.size_alloc, World.heap_drewN]; omega) | (simp; omega))⟩
      · have d1 : decide (x < 0) = false := by simp; omega
        have d2 : decide (30 ≤ x) = false := by simp; omega
        by_cases k0 : k = 0
        · have B := hide (combTo_next HOK.out HX.out rfl (cStep_ok (p := prevAt xs k) (by omega) (by omega) (by unfold prevAt; rw [if_pos k0]; omega)))
          have q0 : (k : Int) ≤ 0 := by omega
          clear k0
          go_wp2
          exact ⟨⟨k + 1, by omega, by go_num, B.out, q, rfl⟩, by simp [intOf]; omega⟩
        · obtain ⟨j, hj⟩ : ∃ j : Nat, k = j + 1 := ⟨k - 1, by omega⟩
          obtain ⟨ae, y, eae, hbe, hy, hd⟩ := h1.icell (j := j) (by omega)
          injection eae with eae
          subst eae
          have HY := hide (show prevAt xs k = y by rw [hj]; exact prevAt_next hy)
          have ej : (k : Int) - 1 = (j : Int) := by omega
          have q1 : (0 : Int) < (k : Int) := by omega
          have q2 : (j : Int) < (n : Int) := by omega
          clear hy hj
          by_cases a3 : x ≤ y
          · have B := hide (combTo_bad HOK.out HX.out HY.out (cStep_3 (by omega) (by omega) a3) (by decide) n hlt)
            go_wp2
            go_ret
            exact ⟨by rw [HE.out, B.out]; rfl, by repeat' (first | assumption | with_reducible exact Below.refl _ _ | with_reducible apply Below.drew | with_reducible apply below_drewN | with_reducible apply below_alloc | with_reducible refine below_set ?_ ?_ _ | (simp only [World.size_alloc, World.heap_drewN]; omega) | (simp; omega))⟩
          · have B := hide (combTo_next HOK.out HX.out HY.out (cStep_ok (by omega) (by omega) a3))
            go_wp2
            exact ⟨⟨k + 1, by omega, by go_num, B.out, q, rfl⟩, by simp [intOf]; omega⟩
    · obtain rfl : k = n := by omega
      go_wp2
      go_ret
      exact ⟨by rw [HE.out, HOK.out]; rfl, by repeat' (first | assumption | with_reducible exact Below.refl _ _ | with_reducible apply Below.drew | with_reducible apply below_drewN | with_reducible apply below_alloc | with_reducible refine below_set ?_ ?_ _ | (simp only [World.size_alloc, World.heap_drewN]; omega) | (simp; omega))⟩

set_option maxHeartbeats 1600000 in
theorem rcomb_any (A : Option Addr) (n c : Nat) (xs : List Int) (w : World) (h1 : Si w A n c xs) :
    Calls Try.prog 39 #[.slice A n c] w fun e w' => e = .returned (.int .i64 (combErr n xs)) ∧ Below w.heap.size w w' := by
  have hm1 := h1.len_max
  by_cases g1 : 30 < n
  · have E := hide (combErr_big (xs := xs) g1)
    go_enter Try.func39, Try.ntmps39
    go_wp2
    go_ret
    exact ⟨by rw [E.out]; rfl, by repeat' (first | assumption | with_reducible exact Below.refl _ _ | with_reducible apply Below.drew | with_reducible apply below_drewN | with_reducible apply below_alloc | with_reducible refine below_set ?_ ?_ _ | (simp only [World.size_alloc, World.heap_drewN]; omega) | (simp; omega))⟩
  have HE := hide (combErr_small (xs := xs) g1)
  go_enter Try.func39, Try.ntmps39
  go_wp2_with fail
  go_loopw [3, 11] (fun v i wr => ∃ k : Nat, k ≤ n ∧ i = .int .i64 k ∧ v = .int .i64 (prevAt xs k) ∧ combTo xs k = 0 ∧ ∃ q, wr = w.drewN q) (fun _ i _ => n - (intOf i).toNat)
  case atStart => exact ⟨0, Nat.zero_le _, rfl, rfl, rfl, 0, rfl⟩
  case round =>
    obtain ⟨k, hk, rfl, rfl, hok, q, rfl⟩ := hrel
    have HOK := hide hok
    clear hok
    by_cases hlt : k < n
    · obtain ⟨ad, x, rfl, hb, hx, hc⟩ := h1.icell hlt
      have HX := hide hx
      have HP := hide (prevAt_next hx)
      clear hx
      obtain ⟨p, hp⟩ : ∃ p, prevAt xs k = p := ⟨_, rfl⟩
      rw [hp]
      by_cases a1 : x < 0 ∨ 29 < x
      · have B := hide (combTo_bad HOK.out HX.out hp (cStep_1 a1) (by decide) n hlt)
        have d1 := inR_no (x := x) (a := 0) (b := 29) (by omega)
        clear hp
        go_wp2_with fail
        refine (within_q x 0 29 _).mono ?_
        rintro e w1 ⟨rfl, rfl⟩
        go_wp2_with fail
        go_ret
        exact ⟨by rw [HE.out, B.out]; rfl, by repeat' (first | assumption | with_reducible exact Below.refl _ _ | with_reducible apply Below.drew | with_reducible apply below_drewN | with_reducible apply below_alloc | with_reducible refine below_set ?_ ?_ _ | (simp only [World.size_alloc, World.heap_drewN]; omega) | (simp; omega))⟩
      · have d1 := inR_yes (x := x) (a := 0) (b := 29) (by omega)
        by_cases a3 : x ≤ p
        · have B := hide (combTo_bad HOK.out HX.out hp (cStep_3 (by omega) (by omega) a3) (by decide) n hlt)
          clear hp
          go_wp2_with fail
          refine (within_q x 0 29 _).mono ?_
          rintro e w1 ⟨rfl, rfl⟩
          go_wp2_with fail
          go_ret
          exact ⟨by rw [HE.out, B.out]; rfl, by repeat' (first | assumption | with_reducible exact Below.refl _ _ | with_reducible apply Below.drew | with_reducible apply below_drewN | with_reducible apply below_alloc | with_reducible refine below_set ?_ ?_ _ | (simp only [World.size_alloc, World.heap_drewN]; omega) | (simp; omega))⟩
        · have B := hide (combTo_next HOK.out HX.out hp (cStep_ok (by omega) (by omega) a3))
          clear hp
          go_wp2_with fail
          refine (within_q x 0 29 _).mono ?_
          rintro e w1 ⟨rfl, rfl⟩
          go_wp2_with fail
          exact ⟨⟨k + 1, by omega, by go_num, by rw [HP.out], B.out, q, rfl⟩, by simp [intOf]; omega⟩
    · obtain rfl : k = n := by omega
      go_wp2_with fail
      go_ret
      exact ⟨by rw [HE.out, HOK.out]; rfl, by repeat' (first | assumption | with_reducible exact Below.refl _ _ | with_reducible apply Below.drew | with_reducible apply below_drewN | with_reducible apply below_alloc | with_reducible refine below_set ?_ ?_ _ | (simp only [World.size_alloc, World.heap_drewN]; omega) | (simp; omega))⟩
end Go.Proofs.Ytgejpinepkockaa
