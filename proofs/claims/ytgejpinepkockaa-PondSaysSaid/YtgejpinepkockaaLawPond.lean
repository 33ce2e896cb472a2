/-
  Check and Put of pond return the specified results for all arguments: the walk of the law. Conditions: those of the reading.
-/
import Derived.Test.YtgejpinepkockaaPond4
namespace Go.Proofs.Ytgejpinepkockaa
open Go.RowKit

theorem samePond_any (K S : Int) (A1 A2 : Option Addr) (n1 n2 c1 c2 : Nat) (xs : List Int) (w : World) (h1 : Si w A1 n1 c1 xs) (h2 : Si w A2 n2 c2 xs) :
    Calls Try.prog 22 #[.agg #[.int .i64 K, .int .i64 S, .slice A1 n1 c1], .agg #[.int .i64 K, .int .i64 S, .slice A2 n2 c2]] w fun e w' => e = .returned (.bool true) ∧ Below w.heap.size w w' := by
  obtain rfl : n1 = n2 := by rw [← h1.ilen, ← h2.ilen]
  exact samePond_yes K S A1 A2 n1 c1 c2 xs w h1 h2
theorem pondErr_zero : pondErr 0 0 0 = 1 := by decide
theorem pondCheck_is {K S E : Int} (A : Option Addr) (n c : Nat) (hn : n ≤ 9223372036854775807) (w : World) (h : pondErr K S n = E) :
    Calls Try.prog 21 #[.agg #[.int .i64 K, .int .i64 S, .slice A n c]] w fun e w' => e = .returned (.int .i64 E) ∧ Below w.heap.size w w' := by
  have h1 := pondCheck_any K S A n c hn w; rw [h] at h1; exact h1
theorem refPond_is {K S E : Int} (A : Option Addr) (n c : Nat) (hn : n ≤ 9223372036854775807) (w : World) (h : pondErr K S n = E) :
    Calls Try.prog 20 #[.agg #[.int .i64 K, .int .i64 S, .slice A n c]] w fun e w' => e = .returned (.int .i64 E) ∧ Below w.heap.size w w' := by
  have h1 := refPond_any K S A n c hn w; rw [h] at h1; exact h1
theorem pondPut_is {K S E : Int} (A : Option Addr) (n c : Nat) (x d : Int) (hn : n ≤ 9223372036854775807) (w : World) (h : putErr K S n d = E) (h0 : ¬ E = 0) :
    Calls Try.prog 19 #[.agg #[.int .i64 K, .int .i64 S, .slice A n c], .int .i64 x, .int .i64 d] w fun e w' =>
      e = .returned (.tuple #[.agg #[.int .i64 0, .int .i64 0, .slice none 0 0], .int .i64 E]) ∧ Below w.heap.size w w' := by
  have h1 := pondPut_bad K S A n c x d hn (by rw [h]; exact h0) w; rw [h] at h1; exact h1

set_option maxRecDepth 20000 in
set_option maxHeartbeats 1600000 in
theorem law_pond (K S : Int) (A : Option Addr) (n c : Nat) (xs : List Int) (x d : Int) (w : World) (h : Si w A n c xs) :
    Calls Try.prog 5 #[.agg #[.int .i64 K, .int .i64 S, .slice A n c], .int .i64 x, .int .i64 d] w fun e w' => e = .returned (.bool true) ∧ Below w.heap.size w w' := by
  have hm := h.len_max
  have pb0 := Blk.new w 32 #[.int .i64 K, .int .i64 S, .slice A n c]
  by_cases h0 : pondErr K S n = 0
  · have H0 := hide h0
    by_cases h2 : S = 1000000000000
    · have HE := hide (show putErr K S n d = 2 by unfold putErr; rw [if_neg (by simpa using h0), if_pos h2])
      have EN := hide (show ¬ (2 : Int) = 0 by decide)
      have t1 : (S == 1000000000000) = true := by simp [h2]
      clear h0 h2
      go_enter Try.func5, Try.ntmps5
      go_wp2_with fail
      refine (pondPut_is A n c x d hm _ HE.out EN.out).mono ?_
      rintro e w1 ⟨rfl, hb1⟩
      have kw1 : Below w.heap.size w w1 := below_on (by repeat' (first | assumption | with_reducible exact Below.refl _ _ | with_reducible apply Below.drew | with_reducible apply below_drewN | with_reducible apply below_alloc | with_reducible refine below_set ?_ ?_ _ | (simp only [World.size_alloc, World.heap_drewN]; omega) | (simp; omega))) hb1
      have zw1 := kw1.size
      have kP01 : Below (w.alloc (.cells #[.int .i64 K, .int .i64 S, .slice A n c] 32)).heap.size (w.alloc (.cells #[.int .i64 K, .int .i64 S, .slice A n c] 32)) w1 := below_on (by repeat' (first | assumption | with_reducible exact Below.refl _ _ | with_reducible apply Below.drew | with_reducible apply below_drewN | with_reducible apply below_alloc | with_reducible refine below_set ?_ ?_ _ | (simp only [World.size_alloc, World.heap_drewN]; omega) | (simp; omega))) hb1
      have zP01 := kP01.size
      have pb_1 := (pb0).below kP01 (pb0).lt
      have lpb_1 := pb_1.lt
      have cpb0 := pb_1.at_ (i := 0) rfl
      have cpb1 := pb_1.at_ (i := 1) rfl
      have cpb2 := pb_1.at_ (i := 2) rfl
      simp only [World.size_alloc, World.heap_drewN] at zw1 zP01
      go_wp2_with fail
      refine (refPond_is A n c hm _ H0.out).mono ?_
      rintro e w2 ⟨rfl, hb2⟩
      have kw2 : Below w.heap.size w w2 := below_on (by repeat' (first | assumption | with_reducible exact Below.refl _ _ | with_reducible apply Below.drew | with_reducible apply below_drewN | with_reducible apply below_alloc | with_reducible refine below_set ?_ ?_ _ | (simp only [World.size_alloc, World.heap_drewN]; omega) | (simp; omega))) hb2
      have zw2 := kw2.size
      have kP02 : Below (w.alloc (.cells #[.int .i64 K, .int .i64 S, .slice A n c] 32)).heap.size (w.alloc (.cells #[.int .i64 K, .int .i64 S, .slice A n c] 32)) w2 := below_on (by repeat' (first | assumption | with_reducible exact Below.refl _ _ | with_reducible apply Below.drew | with_reducible apply below_drewN | with_reducible apply below_alloc | with_reducible refine below_set ?_ ?_ _ | (simp only [World.size_alloc, World.heap_drewN]; omega) | (simp; omega))) hb2
      have zP02 := kP02.size
      have kY2 : Below (w1.alloc (.cells #[.int .i64 0, .int .i64 0, .slice none 0 0] 32)).heap.size (w1.alloc (.cells #[.int .i64 0, .int .i64 0, .slice none 0 0] 32)) w2 := below_on (by repeat' (first | assumption | with_reducible exact Below.refl _ _ | with_reducible apply Below.drew | with_reducible apply below_drewN | with_reducible apply below_alloc | with_reducible refine below_set ?_ ?_ _ | (simp only [World.size_alloc, World.heap_drewN]; omega) | (simp; omega))) hb2
      have zY2 := kY2.size
      have pb_2 := (pb0).below kP02 (pb0).lt
      have lpb_2 := pb_2.lt
      have cpb0 := pb_2.at_ (i := 0) rfl
      have cpb1 := pb_2.at_ (i := 1) rfl
      have cpb2 := pb_2.at_ (i := 2) rfl
      have yb_2 := (Blk.new w1 32 #[.int .i64 0, .int .i64 0, .slice none 0 0]).below kY2 (Blk.new w1 32 #[.int .i64 0, .int .i64 0, .slice none 0 0]).lt
      have lyb_2 := yb_2.lt
      have cyb0 := yb_2.at_ (i := 0) rfl
      have cyb1 := yb_2.at_ (i := 1) rfl
      have cyb2 := yb_2.at_ (i := 2) rfl
      simp only [World.size_alloc, World.heap_drewN] at zw2 zP02 zY2
      go_wp2_with fail
      refine (pondCheck_is A n c hm _ H0.out).mono ?_
      rintro e w3 ⟨rfl, hb3⟩
      have kw3 : Below w.heap.size w w3 := below_on (by repeat' (first | assumption | with_reducible exact Below.refl _ _ | with_reducible apply Below.drew | with_reducible apply below_drewN | with_reducible apply below_alloc | with_reducible refine below_set ?_ ?_ _ | (simp only [World.size_alloc, World.heap_drewN]; omega) | (simp; omega))) hb3
      have zw3 := kw3.size
      have kP03 : Below (w.alloc (.cells #[.int .i64 K, .int .i64 S, .slice A n c] 32)).heap.size (w.alloc (.cells #[.int .i64 K, .int .i64 S, .slice A n c] 32)) w3 := below_on (by repeat' (first | assumption | with_reducible exact Below.refl _ _ | with_reducible apply Below.drew | with_reducible apply below_drewN | with_reducible apply below_alloc | with_reducible refine below_set ?_ ?_ _ | (simp only [World.size_alloc, World.heap_drewN]; omega) | (simp; omega))) hb3
      have zP03 := kP03.size
      have kY3 : Below (w1.alloc (.cells #[.int .i64 0, .int .i64 0, .slice none 0 0] 32)).heap.size (w1.alloc (.cells #[.int .i64 0, .int .i64 0, .slice none 0 0] 32)) w3 := below_on (by repeat' (first | assumption | with_reducible exact Below.refl _ _ | with_reducible apply Below.drew | with_reducible apply below_drewN | with_reducible apply below_alloc | with_reducible refine below_set ?_ ?_ _ | (simp only [World.size_alloc, World.heap_drewN]; omega) | (simp; omega))) hb3
      have zY3 := kY3.size
      have pb_3 := (pb0).below kP03 (pb0).lt
      have lpb_3 := pb_3.lt
      have cpb0 := pb_3.at_ (i := 0) rfl
      have cpb1 := pb_3.at_ (i := 1) rfl
      have cpb2 := pb_3.at_ (i := 2) rfl
      have yb_3 := (Blk.new w1 32 #[.int .i64 0, .int .i64 0, .slice none 0 0]).below kY3 (Blk.new w1 32 #[.int .i64 0, .int .i64 0, .slice none 0 0]).lt
      have lyb_3 := yb_3.lt
      have cyb0 := yb_3.at_ (i := 0) rfl
      have cyb1 := yb_3.at_ (i := 1) rfl
      have cyb2 := yb_3.at_ (i := 2) rfl
      simp only [World.size_alloc, World.heap_drewN] at zw3 zP03 zY3
      go_wp2_with fail
      refine (pondCheck_is none 0 0 (by omega) _ pondErr_zero).mono ?_
      rintro e w4 ⟨rfl, hb4⟩
      have kw4 : Below w.heap.size w w4 := below_on (by repeat' (first | assumption | with_reducible exact Below.refl _ _ | with_reducible apply Below.drew | with_reducible apply below_drewN | with_reducible apply below_alloc | with_reducible refine below_set ?_ ?_ _ | (simp only [World.size_alloc, World.heap_drewN]; omega) | (simp; omega))) hb4
      have zw4 := kw4.size
      have kP04 : Below (w.alloc (.cells #[.int .i64 K, .int .i64 S, .slice A n c] 32)).heap.size (w.alloc (.cells #[.int .i64 K, .int .i64 S, .slice A n c] 32)) w4 := below_on (by repeat' (first | assumption | with_reducible exact Below.refl _ _ | with_reducible apply Below.drew | with_reducible apply below_drewN | with_reducible apply below_alloc | with_reducible refine below_set ?_ ?_ _ | (simp only [World.size_alloc, World.heap_drewN]; omega) | (simp; omega))) hb4
      have zP04 := kP04.size
      have kY4 : Below (w1.alloc (.cells #[.int .i64 0, .int .i64 0, .slice none 0 0] 32)).heap.size (w1.alloc (.cells #[.int .i64 0, .int .i64 0, .slice none 0 0] 32)) w4 := below_on (by repeat' (first | assumption | with_reducible exact Below.refl _ _ | with_reducible apply Below.drew | with_reducible apply below_drewN | with_reducible apply below_alloc | with_reducible refine below_set ?_ ?_ _ | (simp only [World.size_alloc, World.heap_drewN]; omega) | (simp; omega))) hb4
      have zY4 := kY4.size
      have pb_4 := (pb0).below kP04 (pb0).lt
      have lpb_4 := pb_4.lt
      have cpb0 := pb_4.at_ (i := 0) rfl
      have cpb1 := pb_4.at_ (i := 1) rfl
      have cpb2 := pb_4.at_ (i := 2) rfl
      have yb_4 := (Blk.new w1 32 #[.int .i64 0, .int .i64 0, .slice none 0 0]).below kY4 (Blk.new w1 32 #[.int .i64 0, .int .i64 0, .slice none 0 0]).lt
      have lyb_4 := yb_4.lt
      have cyb0 := yb_4.at_ (i := 0) rfl
      have cyb1 := yb_4.at_ (i := 1) rfl
      have cyb2 := yb_4.at_ (i := 2) rfl
      simp only [World.size_alloc, World.heap_drewN] at zw4 zP04 zY4
      go_wp2_with fail
      refine (samePond_yes 0 0 none none 0 0 0 [] _ (Sl.nil _ _ _) (Sl.nil _ _ _)).mono ?_
      rintro e w5 ⟨rfl, hb5⟩
      have kw5 : Below w.heap.size w w5 := below_on (by repeat' (first | assumption | with_reducible exact Below.refl _ _ | with_reducible apply Below.drew | with_reducible apply below_drewN | with_reducible apply below_alloc | with_reducible refine below_set ?_ ?_ _ | (simp only [World.size_alloc, World.heap_drewN]; omega) | (simp; omega))) hb5
      have zw5 := kw5.size
      have kP05 : Below (w.alloc (.cells #[.int .i64 K, .int .i64 S, .slice A n c] 32)).heap.size (w.alloc (.cells #[.int .i64 K, .int .i64 S, .slice A n c] 32)) w5 := below_on (by repeat' (first | assumption | with_reducible exact Below.refl _ _ | with_reducible apply Below.drew | with_reducible apply below_drewN | with_reducible apply below_alloc | with_reducible refine below_set ?_ ?_ _ | (simp only [World.size_alloc, World.heap_drewN]; omega) | (simp; omega))) hb5
      have zP05 := kP05.size
      have kY5 : Below (w1.alloc (.cells #[.int .i64 0, .int .i64 0, .slice none 0 0] 32)).heap.size (w1.alloc (.cells #[.int .i64 0, .int .i64 0, .slice none 0 0] 32)) w5 := below_on (by repeat' (first | assumption | with_reducible exact Below.refl _ _ | with_reducible apply Below.drew | with_reducible apply below_drewN | with_reducible apply below_alloc | with_reducible refine below_set ?_ ?_ _ | (simp only [World.size_alloc, World.heap_drewN]; omega) | (simp; omega))) hb5
      have zY5 := kY5.size
      have pb_5 := (pb0).below kP05 (pb0).lt
      have lpb_5 := pb_5.lt
      have cpb0 := pb_5.at_ (i := 0) rfl
      have cpb1 := pb_5.at_ (i := 1) rfl
      have cpb2 := pb_5.at_ (i := 2) rfl
      have yb_5 := (Blk.new w1 32 #[.int .i64 0, .int .i64 0, .slice none 0 0]).below kY5 (Blk.new w1 32 #[.int .i64 0, .int .i64 0, .slice none 0 0]).lt
      have lyb_5 := yb_5.lt
      have cyb0 := yb_5.at_ (i := 0) rfl
      have cyb1 := yb_5.at_ (i := 1) rfl
      have cyb2 := yb_5.at_ (i := 2) rfl
      simp only [World.size_alloc, World.heap_drewN] at zw5 zP05 zY5
      go_wp2_with fail
      go_ret
      exact ⟨rfl, by repeat' (first | assumption | with_reducible exact Below.refl _ _ | with_reducible apply Below.drew | with_reducible apply below_drewN | with_reducible apply below_alloc | with_reducible refine below_set ?_ ?_ _ | (simp only [World.size_alloc, World.heap_drewN]; omega) | (simp; omega))⟩
    · have t1 : (S == 1000000000000) = false := by simp [h2]
      by_cases hd : d < 0 ∨ S < d
      · have HE := hide (show putErr K S n d = 1 by unfold putErr; rw [if_neg (by simpa using h0), if_neg h2, if_pos hd])
        have EN := hide (show ¬ (1 : Int) = 0 by decide)
        clear h0 h2
        by_cases hd1 : d < 0
        · clear hd
          go_enter Try.func5, Try.ntmps5
          go_wp2_with fail
          refine (pondPut_is A n c x d hm _ HE.out EN.out).mono ?_
          rintro e w1 ⟨rfl, hb1⟩
          have kw1 : Below w.heap.size w w1 := below_on (by repeat' (first | assumption | with_reducible exact Below.refl _ _ | with_reducible apply Below.drew | with_reducible apply below_drewN | with_reducible apply below_alloc | with_reducible refine below_set ?_ ?_ _ | (simp only [World.size_alloc, World.heap_drewN]; omega) | (simp; omega))) hb1
          have zw1 := kw1.size
          have kP01 : Below (w.alloc (.cells #[.int .i64 K, .int .i64 S, .slice A n c] 32)).heap.size (w.alloc (.cells #[.int .i64 K, .int .i64 S, .slice A n c] 32)) w1 := below_on (by repeat' (first | assumption | with_reducible exact Below.refl _ _ | with_reducible apply Below.drew | with_reducible apply below_drewN | with_reducible apply below_alloc | with_reducible refine below_set ?_ ?_ _ | (simp only [World.size_alloc, World.heap_drewN]; omega) | (simp; omega))) hb1
          have zP01 := kP01.size
          have pb_1 := (pb0).below kP01 (pb0).lt
          have lpb_1 := pb_1.lt
          have cpb0 := pb_1.at_ (i := 0) rfl
          have cpb1 := pb_1.at_ (i := 1) rfl
          have cpb2 := pb_1.at_ (i := 2) rfl
          simp only [World.size_alloc, World.heap_drewN] at zw1 zP01
          go_wp2_with fail
          refine (refPond_is A n c hm _ H0.out).mono ?_
          rintro e w2 ⟨rfl, hb2⟩
          have kw2 : Below w.heap.size w w2 := below_on (by repeat' (first | assumption | with_reducible exact Below.refl _ _ | with_reducible apply Below.drew | with_reducible apply below_drewN | with_reducible apply below_alloc | with_reducible refine below_set ?_ ?_ _ | (simp only [World.size_alloc, World.heap_drewN]; omega) | (simp; omega))) hb2
          have zw2 := kw2.size
          have kP02 : Below (w.alloc (.cells #[.int .i64 K, .int .i64 S, .slice A n c] 32)).heap.size (w.alloc (.cells #[.int .i64 K, .int .i64 S, .slice A n c] 32)) w2 := below_on (by repeat' (first | assumption | with_reducible exact Below.refl _ _ | with_reducible apply Below.drew | with_reducible apply below_drewN | with_reducible apply below_alloc | with_reducible refine below_set ?_ ?_ _ | (simp only [World.size_alloc, World.heap_drewN]; omega) | (simp; omega))) hb2
          have zP02 := kP02.size
          have kY2 : Below (w1.alloc (.cells #[.int .i64 0, .int .i64 0, .slice none 0 0] 32)).heap.size (w1.alloc (.cells #[.int .i64 0, .int .i64 0, .slice none 0 0] 32)) w2 := below_on (by repeat' (first | assumption | with_reducible exact Below.refl _ _ | with_reducible apply Below.drew | with_reducible apply below_drewN | with_reducible apply below_alloc | with_reducible refine below_set ?_ ?_ _ | (simp only [World.size_alloc, World.heap_drewN]; omega) | (simp; omega))) hb2
          have zY2 := kY2.size
          have pb_2 := (pb0).below kP02 (pb0).lt
          have lpb_2 := pb_2.lt
          have cpb0 := pb_2.at_ (i := 0) rfl
          have cpb1 := pb_2.at_ (i := 1) rfl
          have cpb2 := pb_2.at_ (i := 2) rfl
          have yb_2 := (Blk.new w1 32 #[.int .i64 0, .int .i64 0, .slice none 0 0]).below kY2 (Blk.new w1 32 #[.int .i64 0, .int .i64 0, .slice none 0 0]).lt
          have lyb_2 := yb_2.lt
          have cyb0 := yb_2.at_ (i := 0) rfl
          have cyb1 := yb_2.at_ (i := 1) rfl
          have cyb2 := yb_2.at_ (i := 2) rfl
          simp only [World.size_alloc, World.heap_drewN] at zw2 zP02 zY2
          go_wp2_with fail
          refine (pondCheck_is A n c hm _ H0.out).mono ?_
          rintro e w3 ⟨rfl, hb3⟩
          have kw3 : Below w.heap.size w w3 := below_on (by repeat' (first | assumption | with_reducible exact Below.refl _ _ | with_reducible apply Below.drew | with_reducible apply below_drewN | with_reducible apply below_alloc | with_reducible refine below_set ?_ ?_ _ | (simp only [World.size_alloc, World.heap_drewN]; omega) | (simp; omega))) hb3
          have zw3 := kw3.size
          have kP03 : Below (w.alloc (.cells #[.int .i64 K, .int .i64 S, .slice A n c] 32)).heap.size (w.alloc (.cells #[.int .i64 K, .int .i64 S, .slice A n c] 32)) w3 := below_on (by repeat' (first | assumption | with_reducible exact Below.refl _ _ | with_reducible apply Below.drew | with_reducible apply below_drewN | with_reducible apply below_alloc | with_reducible refine below_set ?_ ?_ _ | (simp only [World.size_alloc, World.heap_drewN]; omega) | (simp; omega))) hb3
          have zP03 := kP03.size
          have kY3 : Below (w1.alloc (.cells #[.int .i64 0, .int .i64 0, .slice none 0 0] 32)).heap.size (w1.alloc (.cells #[.int .i64 0, .int .i64 0, .slice none 0 0] 32)) w3 := below_on (by repeat' (first | assumption | with_reducible exact Below.refl _ _ | with_reducible apply Below.drew | with_reducible apply below_drewN | with_reducible apply below_alloc | with_reducible refine below_set ?_ ?_ _ | (simp only [World.size_alloc, World.heap_drewN]; omega) | (simp; omega))) hb3
          have zY3 := kY3.size
          have pb_3 := (pb0).below kP03 (pb0).lt
          have lpb_3 := pb_3.lt
          have cpb0 := pb_3.at_ (i := 0) rfl
          have cpb1 := pb_3.at_ (i := 1) rfl
          have cpb2 := pb_3.at_ (i := 2) rfl
          have yb_3 := (Blk.new w1 32 #[.int .i64 0, .int .i64 0, .slice none 0 0]).below kY3 (Blk.new w1 32 #[.int .i64 0, .int .i64 0, .slice none 0 0]).lt
          have lyb_3 := yb_3.lt
          have cyb0 := yb_3.at_ (i := 0) rfl
          have cyb1 := yb_3.at_ (i := 1) rfl
          have cyb2 := yb_3.at_ (i := 2) rfl
          simp only [World.size_alloc, World.heap_drewN] at zw3 zP03 zY3
          go_wp2_with fail
          refine (pondCheck_is none 0 0 (by omega) _ pondErr_zero).mono ?_
          rintro e w4 ⟨rfl, hb4⟩
          have kw4 : Below w.heap.size w w4 := below_on (by repeat' (first | assumption | with_reducible exact Below.refl _ _ | with_reducible apply Below.drew | with_reducible apply below_drewN | with_reducible apply below_alloc | with_reducible refine below_set ?_ ?_ _ | (simp only [World.size_alloc, World.heap_drewN]; omega) | (simp; omega))) hb4
          have zw4 := kw4.size
          have kP04 : Below (w.alloc (.cells #[.int .i64 K, .int .i64 S, .slice A n c] 32)).heap.size (w.alloc (.cells #[.int .i64 K, .int .i64 S, .slice A n c] 32)) w4 := below_on (by repeat' (first | assumption | with_reducible exact Below.refl _ _ | with_reducible apply Below.drew | with_reducible apply below_drewN | with_reducible apply below_alloc | with_reducible refine below_set ?_ ?_ _ | (simp only [World.size_alloc, World.heap_drewN]; omega) | (simp; omega))) hb4
          have zP04 := kP04.size
          have kY4 : Below (w1.alloc (.cells #[.int .i64 0, .int .i64 0, .slice none 0 0] 32)).heap.size (w1.alloc (.cells #[.int .i64 0, .int .i64 0, .slice none 0 0] 32)) w4 := below_on (by repeat' (first | assumption | with_reducible exact Below.refl _ _ | with_reducible apply Below.drew | with_reducible apply below_drewN | with_reducible apply below_alloc | with_reducible refine below_set ?_ ?_ _ | (simp only [World.size_alloc, World.heap_drewN]; omega) | (simp; omega))) hb4
          have zY4 := kY4.size
          have pb_4 := (pb0).below kP04 (pb0).lt
          have lpb_4 := pb_4.lt
          have cpb0 := pb_4.at_ (i := 0) rfl
          have cpb1 := pb_4.at_ (i := 1) rfl
          have cpb2 := pb_4.at_ (i := 2) rfl
          have yb_4 := (Blk.new w1 32 #[.int .i64 0, .int .i64 0, .slice none 0 0]).below kY4 (Blk.new w1 32 #[.int .i64 0, .int .i64 0, .slice none 0 0]).lt
          have lyb_4 := yb_4.lt
          have cyb0 := yb_4.at_ (i := 0) rfl
          have cyb1 := yb_4.at_ (i := 1) rfl
          have cyb2 := yb_4.at_ (i := 2) rfl
          simp only [World.size_alloc, World.heap_drewN] at zw4 zP04 zY4
          go_wp2_with fail
          refine (samePond_yes 0 0 none none 0 0 0 [] _ (Sl.nil _ _ _) (Sl.nil _ _ _)).mono ?_
          rintro e w5 ⟨rfl, hb5⟩
          have kw5 : Below w.heap.size w w5 := below_on (by repeat' (first | assumption | with_reducible exact Below.refl _ _ | with_reducible apply Below.drew | with_reducible apply below_drewN | with_reducible apply below_alloc | with_reducible refine below_set ?_ ?_ _ | (simp only [World.size_alloc, World.heap_drewN]; omega) | (simp; omega))) hb5
          have zw5 := kw5.size
          have kP05 : Below (w.alloc (.cells #[.int .i64 K, .int .i64 S, .slice A n c] 32)).heap.size (w.alloc (.cells #[.int .i64 K, .int .i64 S, .slice A n c] 32)) w5 := below_on (by repeat' (first | assumption | with_reducible exact Below.refl _ _ | with_reducible apply Below.drew | with_reducible apply below_drewN | with_reducible apply below_alloc | with_reducible refine below_set ?_ ?_ _ | (simp only [World.size_alloc, World.heap_drewN]; omega) | (simp; omega))) hb5
          have zP05 := kP05.size
          have kY5 : Below (w1.alloc (.cells #[.int .i64 0, .int .i64 0, .slice none 0 0] 32)).heap.size (w1.alloc (.cells #[.int .i64 0, .int .i64 0, .slice none 0 0] 32)) w5 := below_on (by repeat' (first | assumption | with_reducible exact Below.refl _ _ | with_reducible apply Below.drew | with_reducible apply below_drewN | with_reducible apply below_alloc | with_reducible refine below_set ?_ ?_ _ | (simp only [World.size_alloc, World.heap_drewN]; omega) | (simp; omega))) hb5
          have zY5 := kY5.size
          have pb_5 := (pb0).below kP05 (pb0).lt
          have lpb_5 := pb_5.lt
          have cpb0 := pb_5.at_ (i := 0) rfl
          have cpb1 := pb_5.at_ (i := 1) rfl
          have cpb2 := pb_5.at_ (i := 2) rfl
          have yb_5 := (Blk.new w1 32 #[.int .i64 0, .int .i64 0, .slice none 0 0]).below kY5 (Blk.new w1 32 #[.int .i64 0, .int .i64 0, .slice none 0 0]).lt
          have lyb_5 := yb_5.lt
          have cyb0 := yb_5.at_ (i := 0) rfl
          have cyb1 := yb_5.at_ (i := 1) rfl
          have cyb2 := yb_5.at_ (i := 2) rfl
          simp only [World.size_alloc, World.heap_drewN] at zw5 zP05 zY5
          go_wp2_with fail
          go_ret
          exact ⟨rfl, by repeat' (first | assumption | with_reducible exact Below.refl _ _ | with_reducible apply Below.drew | with_reducible apply below_drewN | with_reducible apply below_alloc | with_reducible refine below_set ?_ ?_ _ | (simp only [World.size_alloc, World.heap_drewN]; omega) | (simp; omega))⟩
        · have hd2 : S < d := by omega
          clear hd
          go_enter Try.func5, Try.ntmps5
          go_wp2_with fail
          refine (pondPut_is A n c x d hm _ HE.out EN.out).mono ?_
          rintro e w1 ⟨rfl, hb1⟩
          have kw1 : Below w.heap.size w w1 := below_on (by repeat' (first | assumption | with_reducible exact Below.refl _ _ | with_reducible apply Below.drew | with_reducible apply below_drewN | with_reducible apply below_alloc | with_reducible refine below_set ?_ ?_ _ | (simp only [World.size_alloc, World.heap_drewN]; omega) | (simp; omega))) hb1
          have zw1 := kw1.size
          have kP01 : Below (w.alloc (.cells #[.int .i64 K, .int .i64 S, .slice A n c] 32)).heap.size (w.alloc (.cells #[.int .i64 K, .int .i64 S, .slice A n c] 32)) w1 := below_on (by repeat' (first | assumption | with_reducible exact Below.refl _ _ | with_reducible apply Below.drew | with_reducible apply below_drewN | with_reducible apply below_alloc | with_reducible refine below_set ?_ ?_ _ | (simp only [World.size_alloc, World.heap_drewN]; omega) | (simp; omega))) hb1
          have zP01 := kP01.size
          have pb_1 := (pb0).below kP01 (pb0).lt
          have lpb_1 := pb_1.lt
          have cpb0 := pb_1.at_ (i := 0) rfl
          have cpb1 := pb_1.at_ (i := 1) rfl
          have cpb2 := pb_1.at_ (i := 2) rfl
          simp only [World.size_alloc, World.heap_drewN] at zw1 zP01
          go_wp2_with fail
          refine (refPond_is A n c hm _ H0.out).mono ?_
          rintro e w2 ⟨rfl, hb2⟩
          have kw2 : Below w.heap.size w w2 := below_on (by repeat' (first | assumption | with_reducible exact Below.refl _ _ | with_reducible apply Below.drew | with_reducible apply below_drewN | with_reducible apply below_alloc | with_reducible refine below_set ?_ ?_ _ | (simp only [World.size_alloc, World.heap_drewN]; omega) | (simp; omega))) hb2
          have zw2 := kw2.size
          have kP02 : Below (w.alloc (.cells #[.int .i64 K, .int .i64 S, .slice A n c] 32)).heap.size (w.alloc (.cells #[.int .i64 K, .int .i64 S, .slice A n c] 32)) w2 := below_on (by repeat' (first | assumption | with_reducible exact Below.refl _ _ | with_reducible apply Below.drew | with_reducible apply below_drewN | with_reducible apply below_alloc | with_reducible refine below_set ?_ ?_ _ | (simp only [World.size_alloc, World.heap_drewN]; omega) | (simp; omega))) hb2
          have zP02 := kP02.size
          have kY2 : Below (w1.alloc (.cells #[.int .i64 0, .int .i64 0, .slice none 0 0] 32)).heap.size (w1.alloc (.cells #[.int .i64 0, .int .i64 0, .slice none 0 0] 32)) w2 := below_on (by repeat' (first | assumption | with_reducible exact Below.refl _ _ | with_reducible apply Below.drew | with_reducible apply below_drewN | with_reducible apply below_alloc | with_reducible refine below_set ?_ ?_ _ | (simp only [World.size_alloc, World.heap_drewN]; omega) | (simp; omega))) hb2
          have zY2 := kY2.size
          have pb_2 := (pb0).below kP02 (pb0).lt
          have lpb_2 := pb_2.lt
          have cpb0 := pb_2.at_ (i := 0) rfl
          have cpb1 := pb_2.at_ (i := 1) rfl
          have cpb2 := pb_2.at_ (i := 2) rfl
          have yb_2 := (Blk.new w1 32 #[.int .i64 0, .int .i64 0, .slice none 0 0]).below kY2 (Blk.new w1 32 #[.int .i64 0, .int .i64 0, .slice none 0 0]).lt
          have lyb_2 := yb_2.lt
          have cyb0 := yb_2.at_ (i := 0) rfl
          have cyb1 := yb_2.at_ (i := 1) rfl
          have cyb2 := yb_2.at_ (i := 2) rfl
          simp only [World.size_alloc, World.heap_drewN] at zw2 zP02 zY2
          go_wp2_with fail
          refine (pondCheck_is A n c hm _ H0.out).mono ?_
          rintro e w3 ⟨rfl, hb3⟩
          have kw3 : Below w.heap.size w w3 := below_on (by repeat' (first | assumption | with_reducible exact Below.refl _ _ | with_reducible apply Below.drew | with_reducible apply below_drewN | with_reducible apply below_alloc | with_reducible refine below_set ?_ ?_ _ | (simp only [World.size_alloc, World.heap_drewN]; omega) | (simp; omega))) hb3
          have zw3 := kw3.size
          have kP03 : Below (w.alloc (.cells #[.int .i64 K, .int .i64 S, .slice A n c] 32)).heap.size (w.alloc (.cells #[.int .i64 K, .int .i64 S, .slice A n c] 32)) w3 := below_on (by repeat' (first | assumption | with_reducible exact Below.refl _ _ | with_reducible apply Below.drew | with_reducible apply below_drewN | with_reducible apply below_alloc | with_reducible refine below_set ?_ ?_ _ | (simp only [World.size_alloc, World.heap_drewN]; omega) | (simp; omega))) hb3
          have zP03 := kP03.size
          have kY3 : Below (w1.alloc (.cells #[.int .i64 0, .int .i64 0, .slice none 0 0] 32)).heap.size (w1.alloc (.cells #[.int .i64 0, .int .i64 0, .slice none 0 0] 32)) w3 := below_on (by repeat' (first | assumption | with_reducible exact Below.refl _ _ | with_reducible apply Below.drew | with_reducible apply below_drewN | with_reducible apply below_alloc | with_reducible refine below_set ?_ ?_ _ | (simp only [World.size_alloc, World.heap_drewN]; omega) | (simp; omega))) hb3
          have zY3 := kY3.size
          have pb_3 := (pb0).below kP03 (pb0).lt
          have lpb_3 := pb_3.lt
          have cpb0 := pb_3.at_ (i := 0) rfl
          have cpb1 := pb_3.at_ (i := 1) rfl
          have cpb2 := pb_3.at_ (i := 2) rfl
          have yb_3 := (Blk.new w1 32 #[.int .i64 0, .int .i64 0, .slice none 0 0]).below kY3 (Blk.new w1 32 #[.int .i64 0, .int .i64 0, .slice none 0 0]).lt
          have lyb_3 := yb_3.lt
          have cyb0 := yb_3.at_ (i := 0) rfl
          have cyb1 := yb_3.at_ (i := 1) rfl
          have cyb2 := yb_3.at_ (i := 2) rfl
          simp only [World.size_alloc, World.heap_drewN] at zw3 zP03 zY3
          go_wp2_with fail
          refine (pondCheck_is none 0 0 (by omega) _ pondErr_zero).mono ?_
          rintro e w4 ⟨rfl, hb4⟩
          have kw4 : Below w.heap.size w w4 := below_on (by repeat' (first | assumption | with_reducible exact Below.refl _ _ | with_reducible apply Below.drew | with_reducible apply below_drewN | with_reducible apply below_alloc | with_reducible refine below_set ?_ ?_ _ | (simp only [World.size_alloc, World.heap_drewN]; omega) | (simp; omega))) hb4
          have zw4 := kw4.size
          have kP04 : Below (w.alloc (.cells #[.int .i64 K, .int .i64 S, .slice A n c] 32)).heap.size (w.alloc (.cells #[.int .i64 K, .int .i64 S, .slice A n c] 32)) w4 := below_on (by repeat' (first | assumption | with_reducible exact Below.refl _ _ | with_reducible apply Below.drew | with_reducible apply below_drewN | with_reducible apply below_alloc | with_reducible refine below_set ?_ ?_ _ | (simp only [World.size_alloc, World.heap_drewN]; omega) | (simp; omega))) hb4
          have zP04 := kP04.size
          have kY4 : Below (w1.alloc (.cells #[.int .i64 0, .int .i64 0, .slice none 0 0] 32)).heap.size (w1.alloc (.cells #[.int .i64 0, .int .i64 0, .slice none 0 0] 32)) w4 := below_on (by repeat' (first | assumption | with_reducible exact Below.refl _ _ | with_reducible apply Below.drew | with_reducible apply below_drewN | with_reducible apply below_alloc | with_reducible refine below_set ?_ ?_ _ | (simp only [World.size_alloc, World.heap_drewN]; omega) | (simp; omega))) hb4
          have zY4 := kY4.size
          have pb_4 := (pb0).below kP04 (pb0).lt
          have lpb_4 := pb_4.lt
          have cpb0 := pb_4.at_ (i := 0) rfl
          have cpb1 := pb_4.at_ (i := 1) rfl
          have cpb2 := pb_4.at_ (i := 2) rfl
          have yb_4 := (Blk.new w1 32 #[.int .i64 0, .int .i64 0, .slice none 0 0]).below kY4 (Blk.new w1 32 #[.int .i64 0, .int .i64 0, .slice none 0 0]).lt
          have lyb_4 := yb_4.lt
          have cyb0 := yb_4.at_ (i := 0) rfl
          have cyb1 := yb_4.at_ (i := 1) rfl
          have cyb2 := yb_4.at_ (i := 2) rfl
          simp only [World.size_alloc, World.heap_drewN] at zw4 zP04 zY4
          go_wp2_with fail
          refine (samePond_yes 0 0 none none 0 0 0 [] _ (Sl.nil _ _ _) (Sl.nil _ _ _)).mono ?_
          rintro e w5 ⟨rfl, hb5⟩
          have kw5 : Below w.heap.size w w5 := below_on (by repeat' (first | assumption | with_reducible exact Below.refl _ _ | with_reducible apply Below.drew | with_reducible apply below_drewN | with_reducible apply below_alloc | with_reducible refine below_set ?_ ?_ _ | (simp only [World.size_alloc, World.heap_drewN]; omega) | (simp; omega))) hb5
          have zw5 := kw5.size
          have kP05 : Below (w.alloc (.cells #[.int .i64 K, .int .i64 S, .slice A n c] 32)).heap.size (w.alloc (.cells #[.int .i64 K, .int .i64 S, .slice A n c] 32)) w5 := below_on (by repeat' (first | assumption | with_reducible exact Below.refl _ _ | with_reducible apply Below.drew | with_reducible apply below_drewN | with_reducible apply below_alloc | with_reducible refine below_set ?_ ?_ _ | (simp only [World.size_alloc, World.heap_drewN]; omega) | (simp; omega))) hb5
          have zP05 := kP05.size
          have kY5 : Below (w1.alloc (.cells #[.int .i64 0, .int .i64 0, .slice none 0 0] 32)).heap.size (w1.alloc (.cells #[.int .i64 0, .int .i64 0, .slice none 0 0] 32)) w5 := below_on (by repeat' (first | assumption | with_reducible exact Below.refl _ _ | with_reducible apply Below.drew | with_reducible apply below_drewN | with_reducible apply below_alloc | with_reducible refine below_set ?_ ?_ _ | (simp only [World.size_alloc, World.heap_drewN]; omega) | (simp; omega))) hb5
          have zY5 := kY5.size
          have pb_5 := (pb0).below kP05 (pb0).lt
          have lpb_5 := pb_5.lt
          have cpb0 := pb_5.at_ (i := 0) rfl
          have cpb1 := pb_5.at_ (i := 1) rfl
          have cpb2 := pb_5.at_ (i := 2) rfl
          have yb_5 := (Blk.new w1 32 #[.int .i64 0, .int .i64 0, .slice none 0 0]).below kY5 (Blk.new w1 32 #[.int .i64 0, .int .i64 0, .slice none 0 0]).lt
          have lyb_5 := yb_5.lt
          have cyb0 := yb_5.at_ (i := 0) rfl
          have cyb1 := yb_5.at_ (i := 1) rfl
          have cyb2 := yb_5.at_ (i := 2) rfl
          simp only [World.size_alloc, World.heap_drewN] at zw5 zP05 zY5
          go_wp2_with fail
          go_ret
          exact ⟨rfl, by repeat' (first | assumption | with_reducible exact Below.refl _ _ | with_reducible apply Below.drew | with_reducible apply below_drewN | with_reducible apply below_alloc | with_reducible refine below_set ?_ ?_ _ | (simp only [World.size_alloc, World.heap_drewN]; omega) | (simp; omega))⟩
      · have HE := hide (show putErr K S n d = 0 by unfold putErr; rw [if_neg (by simpa using h0), if_neg h2, if_neg hd])
        have d1 : ¬ d < 0 := by omega
        have d2 : ¬ S < d := by omega
        clear hd h0 h2
        go_enter Try.func5, Try.ntmps5
        go_wp2_with fail
        refine (pondPut_ok K S A n c xs x d _ (h.on (by repeat' (first | assumption | with_reducible exact Below.refl _ _ | with_reducible apply Below.drew | with_reducible apply below_drewN | with_reducible apply below_alloc | with_reducible refine below_set ?_ ?_ _ | (simp only [World.size_alloc, World.heap_drewN]; omega) | (simp; omega)))) HE.out).mono ?_
        rintro e w1 ⟨A1, n1, c1, rfl, own1, hb1⟩
        have kw1 : Below w.heap.size w w1 := below_on (by repeat' (first | assumption | with_reducible exact Below.refl _ _ | with_reducible apply Below.drew | with_reducible apply below_drewN | with_reducible apply below_alloc | with_reducible refine below_set ?_ ?_ _ | (simp only [World.size_alloc, World.heap_drewN]; omega) | (simp; omega))) hb1
        have zw1 := kw1.size
        have kP01 : Below (w.alloc (.cells #[.int .i64 K, .int .i64 S, .slice A n c] 32)).heap.size (w.alloc (.cells #[.int .i64 K, .int .i64 S, .slice A n c] 32)) w1 := below_on (by repeat' (first | assumption | with_reducible exact Below.refl _ _ | with_reducible apply Below.drew | with_reducible apply below_drewN | with_reducible apply below_alloc | with_reducible refine below_set ?_ ?_ _ | (simp only [World.size_alloc, World.heap_drewN]; omega) | (simp; omega))) hb1
        have zP01 := kP01.size
        have pb_1 := (pb0).below kP01 (pb0).lt
        have lpb_1 := pb_1.lt
        have cpb0 := pb_1.at_ (i := 0) rfl
        have cpb1 := pb_1.at_ (i := 1) rfl
        have cpb2 := pb_1.at_ (i := 2) rfl
        have sx_1 := (h).on kw1
        simp only [World.size_alloc, World.heap_drewN] at zw1 zP01
        go_wp2_with fail
        refine (refPond_is A n c hm _ H0.out).mono ?_
        rintro e w2 ⟨rfl, hb2⟩
        have kw2 : Below w.heap.size w w2 := below_on (by repeat' (first | assumption | with_reducible exact Below.refl _ _ | with_reducible apply Below.drew | with_reducible apply below_drewN | with_reducible apply below_alloc | with_reducible refine below_set ?_ ?_ _ | (simp only [World.size_alloc, World.heap_drewN]; omega) | (simp; omega))) hb2
        have zw2 := kw2.size
        have kP02 : Below (w.alloc (.cells #[.int .i64 K, .int .i64 S, .slice A n c] 32)).heap.size (w.alloc (.cells #[.int .i64 K, .int .i64 S, .slice A n c] 32)) w2 := below_on (by repeat' (first | assumption | with_reducible exact Below.refl _ _ | with_reducible apply Below.drew | with_reducible apply below_drewN | with_reducible apply below_alloc | with_reducible refine below_set ?_ ?_ _ | (simp only [World.size_alloc, World.heap_drewN]; omega) | (simp; omega))) hb2
        have zP02 := kP02.size
        have kw12 : Below w1.heap.size w1 w2 := below_on (by repeat' (first | assumption | with_reducible exact Below.refl _ _ | with_reducible apply Below.drew | with_reducible apply below_drewN | with_reducible apply below_alloc | with_reducible refine below_set ?_ ?_ _ | (simp only [World.size_alloc, World.heap_drewN]; omega) | (simp; omega))) hb2
        have zw12 := kw12.size
        have kY2 : Below (w1.alloc (.cells #[.int .i64 K, .int .i64 (S + 1), .slice A1 n1 c1] 32)).heap.size (w1.alloc (.cells #[.int .i64 K, .int .i64 (S + 1), .slice A1 n1 c1] 32)) w2 := below_on (by repeat' (first | assumption | with_reducible exact Below.refl _ _ | with_reducible apply Below.drew | with_reducible apply below_drewN | with_reducible apply below_alloc | with_reducible refine below_set ?_ ?_ _ | (simp only [World.size_alloc, World.heap_drewN]; omega) | (simp; omega))) hb2
        have zY2 := kY2.size
        have pb_2 := (pb0).below kP02 (pb0).lt
        have lpb_2 := pb_2.lt
        have cpb0 := pb_2.at_ (i := 0) rfl
        have cpb1 := pb_2.at_ (i := 1) rfl
        have cpb2 := pb_2.at_ (i := 2) rfl
        have yb_2 := (Blk.new w1 32 #[.int .i64 K, .int .i64 (S + 1), .slice A1 n1 c1]).below kY2 (Blk.new w1 32 #[.int .i64 K, .int .i64 (S + 1), .slice A1 n1 c1]).lt
        have lyb_2 := yb_2.lt
        have cyb0 := yb_2.at_ (i := 0) rfl
        have cyb1 := yb_2.at_ (i := 1) rfl
        have cyb2 := yb_2.at_ (i := 2) rfl
        have sx_2 := (h).on kw2
        have sy_2 := (own1.sl).on kw12
        simp only [World.size_alloc, World.heap_drewN] at zw2 zP02 zw12 zY2
        go_wp2_with fail
        refine (pondCheck_is A n c hm _ H0.out).mono ?_
        rintro e w3 ⟨rfl, hb3⟩
        have kw3 : Below w.heap.size w w3 := below_on (by repeat' (first | assumption | with_reducible exact Below.refl _ _ | with_reducible apply Below.drew | with_reducible apply below_drewN | with_reducible apply below_alloc | with_reducible refine below_set ?_ ?_ _ | (simp only [World.size_alloc, World.heap_drewN]; omega) | (simp; omega))) hb3
        have zw3 := kw3.size
        have kP03 : Below (w.alloc (.cells #[.int .i64 K, .int .i64 S, .slice A n c] 32)).heap.size (w.alloc (.cells #[.int .i64 K, .int .i64 S, .slice A n c] 32)) w3 := below_on (by repeat' (first | assumption | with_reducible exact Below.refl _ _ | with_reducible apply Below.drew | with_reducible apply below_drewN | with_reducible apply below_alloc | with_reducible refine below_set ?_ ?_ _ | (simp only [World.size_alloc, World.heap_drewN]; omega) | (simp; omega))) hb3
        have zP03 := kP03.size
        have kw13 : Below w1.heap.size w1 w3 := below_on (by repeat' (first | assumption | with_reducible exact Below.refl _ _ | with_reducible apply Below.drew | with_reducible apply below_drewN | with_reducible apply below_alloc | with_reducible refine below_set ?_ ?_ _ | (simp only [World.size_alloc, World.heap_drewN]; omega) | (simp; omega))) hb3
        have zw13 := kw13.size
        have kY3 : Below (w1.alloc (.cells #[.int .i64 K, .int .i64 (S + 1), .slice A1 n1 c1] 32)).heap.size (w1.alloc (.cells #[.int .i64 K, .int .i64 (S + 1), .slice A1 n1 c1] 32)) w3 := below_on (by repeat' (first | assumption | with_reducible exact Below.refl _ _ | with_reducible apply Below.drew | with_reducible apply below_drewN | with_reducible apply below_alloc | with_reducible refine below_set ?_ ?_ _ | (simp only [World.size_alloc, World.heap_drewN]; omega) | (simp; omega))) hb3
        have zY3 := kY3.size
        have pb_3 := (pb0).below kP03 (pb0).lt
        have lpb_3 := pb_3.lt
        have cpb0 := pb_3.at_ (i := 0) rfl
        have cpb1 := pb_3.at_ (i := 1) rfl
        have cpb2 := pb_3.at_ (i := 2) rfl
        have yb_3 := (Blk.new w1 32 #[.int .i64 K, .int .i64 (S + 1), .slice A1 n1 c1]).below kY3 (Blk.new w1 32 #[.int .i64 K, .int .i64 (S + 1), .slice A1 n1 c1]).lt
        have lyb_3 := yb_3.lt
        have cyb0 := yb_3.at_ (i := 0) rfl
        have cyb1 := yb_3.at_ (i := 1) rfl
        have cyb2 := yb_3.at_ (i := 2) rfl
        have sx_3 := (h).on kw3
        have sy_3 := (own1.sl).on kw13
        simp only [World.size_alloc, World.heap_drewN] at zw3 zP03 zw13 zY3
        go_wp2_with fail
        refine (pondCheck_is none 0 0 (by omega) _ pondErr_zero).mono ?_
        rintro e w4 ⟨rfl, hb4⟩
        have kw4 : Below w.heap.size w w4 := below_on (by repeat' (first | assumption | with_reducible exact Below.refl _ _ | with_reducible apply Below.drew | with_reducible apply below_drewN | with_reducible apply below_alloc | with_reducible refine below_set ?_ ?_ _ | (simp only [World.size_alloc, World.heap_drewN]; omega) | (simp; omega))) hb4
        have zw4 := kw4.size
        have kP04 : Below (w.alloc (.cells #[.int .i64 K, .int .i64 S, .slice A n c] 32)).heap.size (w.alloc (.cells #[.int .i64 K, .int .i64 S, .slice A n c] 32)) w4 := below_on (by repeat' (first | assumption | with_reducible exact Below.refl _ _ | with_reducible apply Below.drew | with_reducible apply below_drewN | with_reducible apply below_alloc | with_reducible refine below_set ?_ ?_ _ | (simp only [World.size_alloc, World.heap_drewN]; omega) | (simp; omega))) hb4
        have zP04 := kP04.size
        have kw14 : Below w1.heap.size w1 w4 := below_on (by repeat' (first | assumption | with_reducible exact Below.refl _ _ | with_reducible apply Below.drew | with_reducible apply below_drewN | with_reducible apply below_alloc | with_reducible refine below_set ?_ ?_ _ | (simp only [World.size_alloc, World.heap_drewN]; omega) | (simp; omega))) hb4
        have zw14 := kw14.size
        have kY4 : Below (w1.alloc (.cells #[.int .i64 K, .int .i64 (S + 1), .slice A1 n1 c1] 32)).heap.size (w1.alloc (.cells #[.int .i64 K, .int .i64 (S + 1), .slice A1 n1 c1] 32)) w4 := below_on (by repeat' (first | assumption | with_reducible exact Below.refl _ _ | with_reducible apply Below.drew | with_reducible apply below_drewN | with_reducible apply below_alloc | with_reducible refine below_set ?_ ?_ _ | (simp only [World.size_alloc, World.heap_drewN]; omega) | (simp; omega))) hb4
        have zY4 := kY4.size
        have pb_4 := (pb0).below kP04 (pb0).lt
        have lpb_4 := pb_4.lt
        have cpb0 := pb_4.at_ (i := 0) rfl
        have cpb1 := pb_4.at_ (i := 1) rfl
        have cpb2 := pb_4.at_ (i := 2) rfl
        have yb_4 := (Blk.new w1 32 #[.int .i64 K, .int .i64 (S + 1), .slice A1 n1 c1]).below kY4 (Blk.new w1 32 #[.int .i64 K, .int .i64 (S + 1), .slice A1 n1 c1]).lt
        have lyb_4 := yb_4.lt
        have cyb0 := yb_4.at_ (i := 0) rfl
        have cyb1 := yb_4.at_ (i := 1) rfl
        have cyb2 := yb_4.at_ (i := 2) rfl
        have sx_4 := (h).on kw4
        have sy_4 := (own1.sl).on kw14
        simp only [World.size_alloc, World.heap_drewN] at zw4 zP04 zw14 zY4
        go_wp2_with fail
        go_region_held3 (fun w' => Below w4.heap.size w4 w' ∧ w'.cell? ⟨w.heap.size, 0, none⟩ = some (.int .i64 K) ∧ w'.cell? ⟨w.heap.size, 1, none⟩ = some (.int .i64 S) ∧ w'.cell? ⟨w.heap.size, 2, none⟩ = some (.slice A n c) ∧ w'.cell? ⟨w1.heap.size, 0, none⟩ = some (.int .i64 K) ∧ w'.cell? ⟨w1.heap.size, 1, none⟩ = some (.int .i64 (S + 1)) ∧ w'.cell? ⟨w1.heap.size, 2, none⟩ = some (.slice A1 n1 c1)) ((refine and_below ?_ fun hk => ⟨(hk.cell (p := ⟨w.heap.size, 0, none⟩) (by first | assumption | (simp; omega) | omega)).trans cpb0, (hk.cell (p := ⟨w.heap.size, 1, none⟩) (by first | assumption | (simp; omega) | omega)).trans cpb1, (hk.cell (p := ⟨w.heap.size, 2, none⟩) (by first | assumption | (simp; omega) | omega)).trans cpb2, (hk.cell (p := ⟨w1.heap.size, 0, none⟩) (by first | assumption | (simp; omega) | omega)).trans cyb0, (hk.cell (p := ⟨w1.heap.size, 1, none⟩) (by first | assumption | (simp; omega) | omega)).trans cyb1, (hk.cell (p := ⟨w1.heap.size, 2, none⟩) (by first | assumption | (simp; omega) | omega)).trans cyb2⟩; repeat' (first | assumption | with_reducible exact Below.refl _ _ | with_reducible apply Below.drew | with_reducible apply below_drewN | with_reducible apply below_alloc | with_reducible refine below_set ?_ ?_ _ | (simp only [World.size_alloc, World.heap_drewN]; omega) | (simp; omega))))
          (first
            | (go_at_call 23; refine (came_any K S A n c xs x d _ (sx_4.on (by repeat' (first | assumption | with_reducible exact Below.refl _ _ | with_reducible apply Below.drew | with_reducible apply below_drewN | with_reducible apply below_alloc | with_reducible refine below_set ?_ ?_ _ | (simp only [World.size_alloc, World.heap_drewN]; omega) | (simp; omega)))) HE.out).mono ?_; rintro e w5 ⟨A5, n5, c5, rfl, own5, hb5⟩; have k45 : Below w4.heap.size w4 w5 := below_on (by repeat' (first | assumption | with_reducible exact Below.refl _ _ | with_reducible apply Below.drew | with_reducible apply below_drewN | with_reducible apply below_alloc | with_reducible refine below_set ?_ ?_ _ | (simp only [World.size_alloc, World.heap_drewN]; omega) | (simp; omega))) hb5)
            | (go_at_call 22; refine (samePond_any K (S + 1) A1 A5 n1 n5 c1 c5 (came K S xs x d) _ (sy_4.on (by repeat' (first | assumption | with_reducible exact Below.refl _ _ | with_reducible apply Below.drew | with_reducible apply below_drewN | with_reducible apply below_alloc | with_reducible refine below_set ?_ ?_ _ | (simp only [World.size_alloc, World.heap_drewN]; omega) | (simp; omega)))) (own5.sl.on (by repeat' (first | assumption | with_reducible exact Below.refl _ _ | with_reducible apply Below.drew | with_reducible apply below_drewN | with_reducible apply below_alloc | with_reducible refine below_set ?_ ?_ _ | (simp only [World.size_alloc, World.heap_drewN]; omega) | (simp; omega))))).mono ?_; rintro e w6 ⟨rfl, hb6⟩; have k46 : Below w4.heap.size w4 w6 := below_on (by repeat' (first | assumption | with_reducible exact Below.refl _ _ | with_reducible apply Below.drew | with_reducible apply below_drewN | with_reducible apply below_alloc | with_reducible refine below_set ?_ ?_ _ | (simp only [World.size_alloc, World.heap_drewN]; omega) | (simp; omega))) hb6))
        go_wp2_with fail
        go_ret
        exact ⟨rfl, below_on kw4 k46⟩
  · obtain ⟨E, hE⟩ : ∃ E, pondErr K S n = E := ⟨_, rfl⟩
    have hE2 : putErr K S n d = E := by unfold putErr; rw [if_pos h0, hE]
    rw [hE] at h0
    have HE := hide hE2
    have H0 := hide hE
    have EN := hide h0
    have e1 : (E == 0) = false := by simp [h0]
    have e2 : (E != 0) = true := by simp [h0]
    clear hE hE2
    go_enter Try.func5, Try.ntmps5
    go_wp2_with fail
    refine (pondPut_is A n c x d hm _ HE.out EN.out).mono ?_
    rintro e w1 ⟨rfl, hb1⟩
    have kw1 : Below w.heap.size w w1 := below_on (by repeat' (first | assumption | with_reducible exact Below.refl _ _ | with_reducible apply Below.drew | with_reducible apply below_drewN | with_reducible apply below_alloc | with_reducible refine below_set ?_ ?_ _ | (simp only [World.size_alloc, World.heap_drewN]; omega) | (simp; omega))) hb1
    have zw1 := kw1.size
    have kP01 : Below (w.alloc (.cells #[.int .i64 K, .int .i64 S, .slice A n c] 32)).heap.size (w.alloc (.cells #[.int .i64 K, .int .i64 S, .slice A n c] 32)) w1 := below_on (by repeat' (first | assumption | with_reducible exact Below.refl _ _ | with_reducible apply Below.drew | with_reducible apply below_drewN | with_reducible apply below_alloc | with_reducible refine below_set ?_ ?_ _ | (simp only [World.size_alloc, World.heap_drewN]; omega) | (simp; omega))) hb1
    have zP01 := kP01.size
    have pb_1 := (pb0).below kP01 (pb0).lt
    have lpb_1 := pb_1.lt
    have cpb0 := pb_1.at_ (i := 0) rfl
    have cpb1 := pb_1.at_ (i := 1) rfl
    have cpb2 := pb_1.at_ (i := 2) rfl
    simp only [World.size_alloc, World.heap_drewN] at zw1 zP01
    go_wp2_with fail
    refine (refPond_is A n c hm _ H0.out).mono ?_
    rintro e w2 ⟨rfl, hb2⟩
    have kw2 : Below w.heap.size w w2 := below_on (by repeat' (first | assumption | with_reducible exact Below.refl _ _ | with_reducible apply Below.drew | with_reducible apply below_drewN | with_reducible apply below_alloc | with_reducible refine below_set ?_ ?_ _ | (simp only [World.size_alloc, World.heap_drewN]; omega) | (simp; omega))) hb2
    have zw2 := kw2.size
    have kP02 : Below (w.alloc (.cells #[.int .i64 K, .int .i64 S, .slice A n c] 32)).heap.size (w.alloc (.cells #[.int .i64 K, .int .i64 S, .slice A n c] 32)) w2 := below_on (by repeat' (first | assumption | with_reducible exact Below.refl _ _ | with_reducible apply Below.drew | with_reducible apply below_drewN | with_reducible apply below_alloc | with_reducible refine below_set ?_ ?_ _ | (simp only [World.size_alloc, World.heap_drewN]; omega) | (simp; omega))) hb2
    have zP02 := kP02.size
    have kY2 : Below (w1.alloc (.cells #[.int .i64 0, .int .i64 0, .slice none 0 0] 32)).heap.size (w1.alloc (.cells #[.int .i64 0, .int .i64 0, .slice none 0 0] 32)) w2 := below_on (by repeat' (first | assumption | with_reducible exact Below.refl _ _ | with_reducible apply Below.drew | with_reducible apply below_drewN | with_reducible apply below_alloc | with_reducible refine below_set ?_ ?_ _ | (simp only [World.size_alloc, World.heap_drewN]; omega) | (simp; omega))) hb2
    have zY2 := kY2.size
    have pb_2 := (pb0).below kP02 (pb0).lt
    have lpb_2 := pb_2.lt
    have cpb0 := pb_2.at_ (i := 0) rfl
    have cpb1 := pb_2.at_ (i := 1) rfl
    have cpb2 := pb_2.at_ (i := 2) rfl
    have yb_2 := (Blk.new w1 32 #[.int .i64 0, .int .i64 0, .slice none 0 0]).below kY2 (Blk.new w1 32 #[.int .i64 0, .int .i64 0, .slice none 0 0]).lt
    have lyb_2 := yb_2.lt
    have cyb0 := yb_2.at_ (i := 0) rfl
    have cyb1 := yb_2.at_ (i := 1) rfl
    have cyb2 := yb_2.at_ (i := 2) rfl
    simp only [World.size_alloc, World.heap_drewN] at zw2 zP02 zY2
    go_wp2_with fail
    refine (pondCheck_is A n c hm _ H0.out).mono ?_
    rintro e w3 ⟨rfl, hb3⟩
    have kw3 : Below w.heap.size w w3 := below_on (by repeat' (first | assumption | with_reducible exact Below.refl _ _ | with_reducible apply Below.drew | with_reducible apply below_drewN | with_reducible apply below_alloc | with_reducible refine below_set ?_ ?_ _ | (simp only [World.size_alloc, World.heap_drewN]; omega) | (simp; omega))) hb3
    have zw3 := kw3.size
    have kP03 : Below (w.alloc (.cells #[.int .i64 K, .int .i64 S, .slice A n c] 32)).heap.size (w.alloc (.cells #[.int .i64 K, .int .i64 S, .slice A n c] 32)) w3 := below_on (by repeat' (first | assumption | with_reducible exact Below.refl _ _ | with_reducible apply Below.drew | with_reducible apply below_drewN | with_reducible apply below_alloc | with_reducible refine below_set ?_ ?_ _ | (simp only [World.size_alloc, World.heap_drewN]; omega) | (simp; omega))) hb3
    have zP03 := kP03.size
    have kY3 : Below (w1.alloc (.cells #[.int .i64 0, .int .i64 0, .slice none 0 0] 32)).heap.size (w1.alloc (.cells #[.int .i64 0, .int .i64 0, .slice none 0 0] 32)) w3 := below_on (by repeat' (first | assumption | with_reducible exact Below.refl _ _ | with_reducible apply Below.drew | with_reducible apply below_drewN | with_reducible apply below_alloc | with_reducible refine below_set ?_ ?_ _ | (simp only [World.size_alloc, World.heap_drewN]; omega) | (simp; omega))) hb3
    have zY3 := kY3.size
    have pb_3 := (pb0).below kP03 (pb0).lt
    have lpb_3 := pb_3.lt
    have cpb0 := pb_3.at_ (i := 0) rfl
    have cpb1 := pb_3.at_ (i := 1) rfl
    have cpb2 := pb_3.at_ (i := 2) rfl
    have yb_3 := (Blk.new w1 32 #[.int .i64 0, .int .i64 0, .slice none 0 0]).below kY3 (Blk.new w1 32 #[.int .i64 0, .int .i64 0, .slice none 0 0]).lt
    have lyb_3 := yb_3.lt
    have cyb0 := yb_3.at_ (i := 0) rfl
    have cyb1 := yb_3.at_ (i := 1) rfl
    have cyb2 := yb_3.at_ (i := 2) rfl
    simp only [World.size_alloc, World.heap_drewN] at zw3 zP03 zY3
    go_wp2_with fail
    refine (pondCheck_is none 0 0 (by omega) _ pondErr_zero).mono ?_
    rintro e w4 ⟨rfl, hb4⟩
    have kw4 : Below w.heap.size w w4 := below_on (by repeat' (first | assumption | with_reducible exact Below.refl _ _ | with_reducible apply Below.drew | with_reducible apply below_drewN | with_reducible apply below_alloc | with_reducible refine below_set ?_ ?_ _ | (simp only [World.size_alloc, World.heap_drewN]; omega) | (simp; omega))) hb4
    have zw4 := kw4.size
    have kP04 : Below (w.alloc (.cells #[.int .i64 K, .int .i64 S, .slice A n c] 32)).heap.size (w.alloc (.cells #[.int .i64 K, .int .i64 S, .slice A n c] 32)) w4 := below_on (by repeat' (first | assumption | with_reducible exact Below.refl _ _ | with_reducible apply Below.drew | with_reducible apply below_drewN | with_reducible apply below_alloc | with_reducible refine below_set ?_ ?_ _ | (simp only [World.size_alloc, World.heap_drewN]; omega) | (simp; omega))) hb4
    have zP04 := kP04.size
    have kY4 : Below (w1.alloc (.cells #[.int .i64 0, .int .i64 0, .slice none 0 0] 32)).heap.size (w1.alloc (.cells #[.int .i64 0, .int .i64 0, .slice none 0 0] 32)) w4 := below_on (by repeat' (first | assumption | with_reducible exact Below.refl _ _ | with_reducible apply Below.drew | with_reducible apply below_drewN | with_reducible apply below_alloc | with_reducible refine below_set ?_ ?_ _ | (simp only [World.size_alloc, World.heap_drewN]; omega) | (simp; omega))) hb4
    have zY4 := kY4.size
    have pb_4 := (pb0).below kP04 (pb0).lt
    have lpb_4 := pb_4.lt
    have cpb0 := pb_4.at_ (i := 0) rfl
    have cpb1 := pb_4.at_ (i := 1) rfl
    have cpb2 := pb_4.at_ (i := 2) rfl
    have yb_4 := (Blk.new w1 32 #[.int .i64 0, .int .i64 0, .slice none 0 0]).below kY4 (Blk.new w1 32 #[.int .i64 0, .int .i64 0, .slice none 0 0]).lt
    have lyb_4 := yb_4.lt
    have cyb0 := yb_4.at_ (i := 0) rfl
    have cyb1 := yb_4.at_ (i := 1) rfl
    have cyb2 := yb_4.at_ (i := 2) rfl
    simp only [World.size_alloc, World.heap_drewN] at zw4 zP04 zY4
    go_wp2_with fail
    refine (samePond_yes 0 0 none none 0 0 0 [] _ (Sl.nil _ _ _) (Sl.nil _ _ _)).mono ?_
    rintro e w5 ⟨rfl, hb5⟩
    have kw5 : Below w.heap.size w w5 := below_on (by repeat' (first | assumption | with_reducible exact Below.refl _ _ | with_reducible apply Below.drew | with_reducible apply below_drewN | with_reducible apply below_alloc | with_reducible refine below_set ?_ ?_ _ | (simp only [World.size_alloc, World.heap_drewN]; omega) | (simp; omega))) hb5
    have zw5 := kw5.size
    have kP05 : Below (w.alloc (.cells #[.int .i64 K, .int .i64 S, .slice A n c] 32)).heap.size (w.alloc (.cells #[.int .i64 K, .int .i64 S, .slice A n c] 32)) w5 := below_on (by repeat' (first | assumption | with_reducible exact Below.refl _ _ | with_reducible apply Below.drew | with_reducible apply below_drewN | with_reducible apply below_alloc | with_reducible refine below_set ?_ ?_ _ | (simp only [World.size_alloc, World.heap_drewN]; omega) | (simp; omega))) hb5
    have zP05 := kP05.size
    have kY5 : Below (w1.alloc (.cells #[.int .i64 0, .int .i64 0, .slice none 0 0] 32)).heap.size (w1.alloc (.cells #[.int .i64 0, .int .i64 0, .slice none 0 0] 32)) w5 := below_on (by repeat' (first | assumption | with_reducible exact Below.refl _ _ | with_reducible apply Below.drew | with_reducible apply below_drewN | with_reducible apply below_alloc | with_reducible refine below_set ?_ ?_ _ | (simp only [World.size_alloc, World.heap_drewN]; omega) | (simp; omega))) hb5
    have zY5 := kY5.size
    have pb_5 := (pb0).below kP05 (pb0).lt
    have lpb_5 := pb_5.lt
    have cpb0 := pb_5.at_ (i := 0) rfl
    have cpb1 := pb_5.at_ (i := 1) rfl
    have cpb2 := pb_5.at_ (i := 2) rfl
    have yb_5 := (Blk.new w1 32 #[.int .i64 0, .int .i64 0, .slice none 0 0]).below kY5 (Blk.new w1 32 #[.int .i64 0, .int .i64 0, .slice none 0 0]).lt
    have lyb_5 := yb_5.lt
    have cyb0 := yb_5.at_ (i := 0) rfl
    have cyb1 := yb_5.at_ (i := 1) rfl
    have cyb2 := yb_5.at_ (i := 2) rfl
    simp only [World.size_alloc, World.heap_drewN] at zw5 zP05 zY5
    go_wp2_with fail
    go_ret
    exact ⟨rfl, by repeat' (first | assumption | with_reducible exact Below.refl _ _ | with_reducible apply Below.drew | with_reducible apply below_drewN | with_reducible apply below_alloc | with_reducible refine below_set ?_ ?_ _ | (simp only [World.size_alloc, World.heap_drewN]; omega) | (simp; omega))⟩
end Go.Proofs.Ytgejpinepkockaa
