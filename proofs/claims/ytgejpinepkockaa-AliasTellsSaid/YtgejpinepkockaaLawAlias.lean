/-
  Check, Pick and Shares of alias return the specified results for all arguments: the walk of the law. Conditions: those of the reading.
-/
import Derived.Test.YtgejpinepkockaaAlias4
import Derived.Test.YtgejpinepkockaaPond3
namespace Go.Proofs.Ytgejpinepkockaa
open Go.RowKit

theorem aliasErr_none : aliasErr 0 0 0 [] [] = 7 := by decide

section
variable {all : Int} {A1 A2 : Option Addr} {n1 c1 n2 c2 : Nat} {own rest : List Int} {w : World} {col part : Int}

set_option maxRecDepth 100000 in
set_option maxHeartbeats 1600000 in
theorem law_tells_bad (h1 : Si w A1 n1 c1 own) (h2 : Si w A2 n2 c2 rest) (h0 : ¬ aliasErr all n1 n2 own rest = 0) :
    Calls Try.prog 6 #[.agg #[.int .i64 all, .slice A1 n1 c1, .slice A2 n2 c2], .int .i64 col, .int .i64 part] w fun e w' => e = .returned (.bool true) ∧ Below w.heap.size w w' := by
  obtain ⟨E, hE⟩ : ∃ E, aliasErr all n1 n2 own rest = E := ⟨_, rfl⟩
  rw [hE] at h0
  have e1 : (E == 0) = false := by simp [h0]
  have e2 : (E != 0) = true := by simp [h0]
  have HE := hide hE
  have EN := hide h0
  clear hE h0
  have pb0 := Blk.new w 40 #[.int .i64 all, .slice A1 n1 c1, .slice A2 n2 c2]
  go_enter Try.func6, Try.ntmps6
  go_wp2_with fail
  refine (pick_bad (h1.on (by repeat' (first | assumption | with_reducible exact Below.refl _ _ | with_reducible apply Below.drew | with_reducible apply below_drewN | with_reducible apply below_alloc | with_reducible refine below_set ?_ ?_ _ | (simp only [World.size_alloc, World.heap_drewN]; omega) | (simp; omega)))) (h2.on (by repeat' (first | assumption | with_reducible exact Below.refl _ _ | with_reducible apply Below.drew | with_reducible apply below_drewN | with_reducible apply below_alloc | with_reducible refine below_set ?_ ?_ _ | (simp only [World.size_alloc, World.heap_drewN]; omega) | (simp; omega)))) HE.out EN.out).mono ?_
  rintro e w1 ⟨rfl, hb1⟩
  have kw1 : Below w.heap.size w w1 := below_on (by repeat' (first | assumption | with_reducible exact Below.refl _ _ | with_reducible apply Below.drew | with_reducible apply below_drewN | with_reducible apply below_alloc | with_reducible refine below_set ?_ ?_ _ | (simp only [World.size_alloc, World.heap_drewN]; omega) | (simp; omega))) hb1
  have zw1 := kw1.size
  have kP01 : Below (w.alloc (.cells #[.int .i64 all, .slice A1 n1 c1, .slice A2 n2 c2] 40)).heap.size (w.alloc (.cells #[.int .i64 all, .slice A1 n1 c1, .slice A2 n2 c2] 40)) w1 := below_on (by repeat' (first | assumption | with_reducible exact Below.refl _ _ | with_reducible apply Below.drew | with_reducible apply below_drewN | with_reducible apply below_alloc | with_reducible refine below_set ?_ ?_ _ | (simp only [World.size_alloc, World.heap_drewN]; omega) | (simp; omega))) hb1
  have zP01 := kP01.size
  have pb_1 := (pb0).below kP01 (pb0).lt
  have lpb_1 := pb_1.lt
  have cpb0 := pb_1.at_ (i := 0) rfl
  have cpb1 := pb_1.at_ (i := 1) rfl
  have cpb2 := pb_1.at_ (i := 2) rfl
  have sx_1 := (h1).on kw1
  have sy_1 := (h2).on kw1
  simp only [World.size_alloc, World.heap_drewN] at zw1 zP01
  go_wp2_with fail
  refine (shares_bad (sx_1.on (by repeat' (first | assumption | with_reducible exact Below.refl _ _ | with_reducible apply Below.drew | with_reducible apply below_drewN | with_reducible apply below_alloc | with_reducible refine below_set ?_ ?_ _ | (simp only [World.size_alloc, World.heap_drewN]; omega) | (simp; omega)))) (sy_1.on (by repeat' (first | assumption | with_reducible exact Below.refl _ _ | with_reducible apply Below.drew | with_reducible apply below_drewN | with_reducible apply below_alloc | with_reducible refine below_set ?_ ?_ _ | (simp only [World.size_alloc, World.heap_drewN]; omega) | (simp; omega)))) HE.out EN.out).mono ?_
  rintro e w2 ⟨rfl, hb2⟩
  have kw2 : Below w.heap.size w w2 := below_on (by repeat' (first | assumption | with_reducible exact Below.refl _ _ | with_reducible apply Below.drew | with_reducible apply below_drewN | with_reducible apply below_alloc | with_reducible refine below_set ?_ ?_ _ | (simp only [World.size_alloc, World.heap_drewN]; omega) | (simp; omega))) hb2
  have zw2 := kw2.size
  have kP02 : Below (w.alloc (.cells #[.int .i64 all, .slice A1 n1 c1, .slice A2 n2 c2] 40)).heap.size (w.alloc (.cells #[.int .i64 all, .slice A1 n1 c1, .slice A2 n2 c2] 40)) w2 := below_on (by repeat' (first | assumption | with_reducible exact Below.refl _ _ | with_reducible apply Below.drew | with_reducible apply below_drewN | with_reducible apply below_alloc | with_reducible refine below_set ?_ ?_ _ | (simp only [World.size_alloc, World.heap_drewN]; omega) | (simp; omega))) hb2
  have zP02 := kP02.size
  have pb_2 := (pb0).below kP02 (pb0).lt
  have lpb_2 := pb_2.lt
  have cpb0 := pb_2.at_ (i := 0) rfl
  have cpb1 := pb_2.at_ (i := 1) rfl
  have cpb2 := pb_2.at_ (i := 2) rfl
  have sx_2 := (h1).on kw2
  have sy_2 := (h2).on kw2
  simp only [World.size_alloc, World.heap_drewN] at zw2 zP02
  go_wp2_with fail
  refine (table_is (sx_2.on (by repeat' (first | assumption | with_reducible exact Below.refl _ _ | with_reducible apply Below.drew | with_reducible apply below_drewN | with_reducible apply below_alloc | with_reducible refine below_set ?_ ?_ _ | (simp only [World.size_alloc, World.heap_drewN]; omega) | (simp; omega)))) (sy_2.on (by repeat' (first | assumption | with_reducible exact Below.refl _ _ | with_reducible apply Below.drew | with_reducible apply below_drewN | with_reducible apply below_alloc | with_reducible refine below_set ?_ ?_ _ | (simp only [World.size_alloc, World.heap_drewN]; omega) | (simp; omega)))) HE.out).mono ?_
  rintro e w3 ⟨rfl, hb3⟩
  have kw3 : Below w.heap.size w w3 := below_on (by repeat' (first | assumption | with_reducible exact Below.refl _ _ | with_reducible apply Below.drew | with_reducible apply below_drewN | with_reducible apply below_alloc | with_reducible refine below_set ?_ ?_ _ | (simp only [World.size_alloc, World.heap_drewN]; omega) | (simp; omega))) hb3
  have zw3 := kw3.size
  have kP03 : Below (w.alloc (.cells #[.int .i64 all, .slice A1 n1 c1, .slice A2 n2 c2] 40)).heap.size (w.alloc (.cells #[.int .i64 all, .slice A1 n1 c1, .slice A2 n2 c2] 40)) w3 := below_on (by repeat' (first | assumption | with_reducible exact Below.refl _ _ | with_reducible apply Below.drew | with_reducible apply below_drewN | with_reducible apply below_alloc | with_reducible refine below_set ?_ ?_ _ | (simp only [World.size_alloc, World.heap_drewN]; omega) | (simp; omega))) hb3
  have zP03 := kP03.size
  have pb_3 := (pb0).below kP03 (pb0).lt
  have lpb_3 := pb_3.lt
  have cpb0 := pb_3.at_ (i := 0) rfl
  have cpb1 := pb_3.at_ (i := 1) rfl
  have cpb2 := pb_3.at_ (i := 2) rfl
  have sx_3 := (h1).on kw3
  have sy_3 := (h2).on kw3
  simp only [World.size_alloc, World.heap_drewN] at zw3 zP03
  go_wp2_with fail
  refine (aliasCheck_is (sx_3.on (by repeat' (first | assumption | with_reducible exact Below.refl _ _ | with_reducible apply Below.drew | with_reducible apply below_drewN | with_reducible apply below_alloc | with_reducible refine below_set ?_ ?_ _ | (simp only [World.size_alloc, World.heap_drewN]; omega) | (simp; omega)))) (sy_3.on (by repeat' (first | assumption | with_reducible exact Below.refl _ _ | with_reducible apply Below.drew | with_reducible apply below_drewN | with_reducible apply below_alloc | with_reducible refine below_set ?_ ?_ _ | (simp only [World.size_alloc, World.heap_drewN]; omega) | (simp; omega)))) HE.out).mono ?_
  rintro e w4 ⟨rfl, hb4⟩
  have kw4 : Below w.heap.size w w4 := below_on (by repeat' (first | assumption | with_reducible exact Below.refl _ _ | with_reducible apply Below.drew | with_reducible apply below_drewN | with_reducible apply below_alloc | with_reducible refine below_set ?_ ?_ _ | (simp only [World.size_alloc, World.heap_drewN]; omega) | (simp; omega))) hb4
  have zw4 := kw4.size
  have kP04 : Below (w.alloc (.cells #[.int .i64 all, .slice A1 n1 c1, .slice A2 n2 c2] 40)).heap.size (w.alloc (.cells #[.int .i64 all, .slice A1 n1 c1, .slice A2 n2 c2] 40)) w4 := below_on (by repeat' (first | assumption | with_reducible exact Below.refl _ _ | with_reducible apply Below.drew | with_reducible apply below_drewN | with_reducible apply below_alloc | with_reducible refine below_set ?_ ?_ _ | (simp only [World.size_alloc, World.heap_drewN]; omega) | (simp; omega))) hb4
  have zP04 := kP04.size
  have pb_4 := (pb0).below kP04 (pb0).lt
  have lpb_4 := pb_4.lt
  have cpb0 := pb_4.at_ (i := 0) rfl
  have cpb1 := pb_4.at_ (i := 1) rfl
  have cpb2 := pb_4.at_ (i := 2) rfl
  have sx_4 := (h1).on kw4
  have sy_4 := (h2).on kw4
  simp only [World.size_alloc, World.heap_drewN] at zw4 zP04
  go_wp2_with fail
  refine (aliasCheck_is (own := []) (rest := []) (Sl.nil _ _ _) (Sl.nil _ _ _) aliasErr_none).mono ?_
  rintro e w5 ⟨rfl, hb5⟩
  have kw5 : Below w.heap.size w w5 := below_on (by repeat' (first | assumption | with_reducible exact Below.refl _ _ | with_reducible apply Below.drew | with_reducible apply below_drewN | with_reducible apply below_alloc | with_reducible refine below_set ?_ ?_ _ | (simp only [World.size_alloc, World.heap_drewN]; omega) | (simp; omega))) hb5
  have zw5 := kw5.size
  have kP05 : Below (w.alloc (.cells #[.int .i64 all, .slice A1 n1 c1, .slice A2 n2 c2] 40)).heap.size (w.alloc (.cells #[.int .i64 all, .slice A1 n1 c1, .slice A2 n2 c2] 40)) w5 := below_on (by repeat' (first | assumption | with_reducible exact Below.refl _ _ | with_reducible apply Below.drew | with_reducible apply below_drewN | with_reducible apply below_alloc | with_reducible refine below_set ?_ ?_ _ | (simp only [World.size_alloc, World.heap_drewN]; omega) | (simp; omega))) hb5
  have zP05 := kP05.size
  have pb_5 := (pb0).below kP05 (pb0).lt
  have lpb_5 := pb_5.lt
  have cpb0 := pb_5.at_ (i := 0) rfl
  have cpb1 := pb_5.at_ (i := 1) rfl
  have cpb2 := pb_5.at_ (i := 2) rfl
  have sx_5 := (h1).on kw5
  have sy_5 := (h2).on kw5
  simp only [World.size_alloc, World.heap_drewN] at zw5 zP05
  go_wp2_with fail
  go_ret
  exact ⟨rfl, by repeat' (first | assumption | with_reducible exact Below.refl _ _ | with_reducible apply Below.drew | with_reducible apply below_drewN | with_reducible apply below_alloc | with_reducible refine below_set ?_ ?_ _ | (simp only [World.size_alloc, World.heap_drewN]; omega) | (simp; omega))⟩

theorem pick_all (g1 : own.length = n1) (g2 : rest.length = n1) (h : aliasErr all n1 n1 own rest = 0) : ∃ pv pe : Int,
    (∀ W : World, Si W A1 n1 c1 own → Si W A2 n1 c2 rest → Calls Try.prog 24 #[.agg #[.int .i64 all, .slice A1 n1 c1, .slice A2 n1 c2], .int .i64 col, .int .i64 part] W fun e w' => e = .returned (.tuple #[.int .i64 pv, .int .i64 pe]) ∧ Below W.heap.size W w') ∧
    ((¬ (0 ≤ col ∧ col < n1 ∧ 0 ≤ part ∧ part < all) ∧ pv = 0 ∧ pe = 1) ∨
      ∃ (k : Nat) (x y : Int), col = k ∧ k < n1 ∧ 0 ≤ part ∧ part < all ∧ own[k]? = some x ∧ rest[k]? = some y ∧ pe = 0 ∧ pv = if part < x then (k : Int) else y) := by
  by_cases hb : 0 ≤ col ∧ col < n1 ∧ 0 ≤ part ∧ part < all
  · obtain ⟨b1, b2, b3, b4⟩ := hb
    obtain ⟨k, rfl⟩ := Int.eq_ofNat_of_zero_le b1
    have hx := getD_at (l := own) (k := k) (by omega)
    have hy := getD_at (l := rest) (k := k) (by omega)
    exact ⟨_, _, fun W s1 s2 => pick_ok s1 s2 h k (by omega) b3 b4 hx hy, .inr ⟨k, _, _, rfl, by omega, b3, b4, hx, hy, rfl, rfl⟩⟩
  · exact ⟨0, 1, fun W s1 s2 => pick_arg s1 s2 h hb, .inl ⟨hb, rfl, rfl⟩⟩

set_option maxRecDepth 100000 in
set_option maxHeartbeats 3200000 in
theorem law_tells_good (h1 : Si w A1 n1 c1 own) (h2 : Si w A2 n1 c2 rest) (h : aliasErr all n1 n1 own rest = 0) :
    Calls Try.prog 6 #[.agg #[.int .i64 all, .slice A1 n1 c1, .slice A2 n1 c2], .int .i64 col, .int .i64 part] w fun e w' => e = .returned (.bool true) ∧ Below w.heap.size w w' := by
  obtain ⟨pv, pe, hpick, hcase⟩ := pick_all (all := all) (A1 := A1) (A2 := A2) (c1 := c1) (c2 := c2) (col := col) (part := part) h1.ilen h2.ilen h
  have HC := hide hcase
  have hpick := hide hpick
  obtain ⟨g1, g2, g3, g4, g5, g6⟩ := aliasErr_zero h
  have HB := hide (shareTo_inB (all := all) h1.ilen h2.ilen g6)
  have HOK := hide g6
  have H0 := hide h
  clear hcase h g6 g2
  have pb0 := Blk.new w 40 #[.int .i64 all, .slice A1 n1 c1, .slice A2 n1 c2]
  go_enter Try.func6, Try.ntmps6
  go_wp2_with fail
  refine (hpick.out _ (h1.on (by repeat' (first | assumption | with_reducible exact Below.refl _ _ | with_reducible apply Below.drew | with_reducible apply below_drewN | with_reducible apply below_alloc | with_reducible refine below_set ?_ ?_ _ | (simp only [World.size_alloc, World.heap_drewN]; omega) | (simp; omega)))) (h2.on (by repeat' (first | assumption | with_reducible exact Below.refl _ _ | with_reducible apply Below.drew | with_reducible apply below_drewN | with_reducible apply below_alloc | with_reducible refine below_set ?_ ?_ _ | (simp only [World.size_alloc, World.heap_drewN]; omega) | (simp; omega))))).mono ?_
  rintro e w1 ⟨rfl, hb1⟩
  have kw1 : Below w.heap.size w w1 := below_on (by repeat' (first | assumption | with_reducible exact Below.refl _ _ | with_reducible apply Below.drew | with_reducible apply below_drewN | with_reducible apply below_alloc | with_reducible refine below_set ?_ ?_ _ | (simp only [World.size_alloc, World.heap_drewN]; omega) | (simp; omega))) hb1
  have zw1 := kw1.size
  have kP01 : Below (w.alloc (.cells #[.int .i64 all, .slice A1 n1 c1, .slice A2 n1 c2] 40)).heap.size (w.alloc (.cells #[.int .i64 all, .slice A1 n1 c1, .slice A2 n1 c2] 40)) w1 := below_on (by repeat' (first | assumption | with_reducible exact Below.refl _ _ | with_reducible apply Below.drew | with_reducible apply below_drewN | with_reducible apply below_alloc | with_reducible refine below_set ?_ ?_ _ | (simp only [World.size_alloc, World.heap_drewN]; omega) | (simp; omega))) hb1
  have zP01 := kP01.size
  have pb_1 := (pb0).below kP01 (pb0).lt
  have lpb_1 := pb_1.lt
  have cpb0 := pb_1.at_ (i := 0) rfl
  have cpb1 := pb_1.at_ (i := 1) rfl
  have cpb2 := pb_1.at_ (i := 2) rfl
  have sx_1 := (h1).on kw1
  have sy_1 := (h2).on kw1
  simp only [World.size_alloc, World.heap_drewN] at zw1 zP01
  go_wp2_with fail
  refine (shares_ok (sx_1.on (by repeat' (first | assumption | with_reducible exact Below.refl _ _ | with_reducible apply Below.drew | with_reducible apply below_drewN | with_reducible apply below_alloc | with_reducible refine below_set ?_ ?_ _ | (simp only [World.size_alloc, World.heap_drewN]; omega) | (simp; omega)))) (sy_1.on (by repeat' (first | assumption | with_reducible exact Below.refl _ _ | with_reducible apply Below.drew | with_reducible apply below_drewN | with_reducible apply below_alloc | with_reducible refine below_set ?_ ?_ _ | (simp only [World.size_alloc, World.heap_drewN]; omega) | (simp; omega)))) H0.out).mono ?_
  rintro e w2 ⟨A3, c3, rfl, own3, hb2⟩
  have kw2 : Below w.heap.size w w2 := below_on (by repeat' (first | assumption | with_reducible exact Below.refl _ _ | with_reducible apply Below.drew | with_reducible apply below_drewN | with_reducible apply below_alloc | with_reducible refine below_set ?_ ?_ _ | (simp only [World.size_alloc, World.heap_drewN]; omega) | (simp; omega))) hb2
  have zw2 := kw2.size
  have kP02 : Below (w.alloc (.cells #[.int .i64 all, .slice A1 n1 c1, .slice A2 n1 c2] 40)).heap.size (w.alloc (.cells #[.int .i64 all, .slice A1 n1 c1, .slice A2 n1 c2] 40)) w2 := below_on (by repeat' (first | assumption | with_reducible exact Below.refl _ _ | with_reducible apply Below.drew | with_reducible apply below_drewN | with_reducible apply below_alloc | with_reducible refine below_set ?_ ?_ _ | (simp only [World.size_alloc, World.heap_drewN]; omega) | (simp; omega))) hb2
  have zP02 := kP02.size
  have pb_2 := (pb0).below kP02 (pb0).lt
  have lpb_2 := pb_2.lt
  have cpb0 := pb_2.at_ (i := 0) rfl
  have cpb1 := pb_2.at_ (i := 1) rfl
  have cpb2 := pb_2.at_ (i := 2) rfl
  have sx_2 := (h1).on kw2
  have sy_2 := (h2).on kw2
  simp only [World.size_alloc, World.heap_drewN] at zw2 zP02
  go_wp2_with fail
  refine (table_is (sx_2.on (by repeat' (first | assumption | with_reducible exact Below.refl _ _ | with_reducible apply Below.drew | with_reducible apply below_drewN | with_reducible apply below_alloc | with_reducible refine below_set ?_ ?_ _ | (simp only [World.size_alloc, World.heap_drewN]; omega) | (simp; omega)))) (sy_2.on (by repeat' (first | assumption | with_reducible exact Below.refl _ _ | with_reducible apply Below.drew | with_reducible apply below_drewN | with_reducible apply below_alloc | with_reducible refine below_set ?_ ?_ _ | (simp only [World.size_alloc, World.heap_drewN]; omega) | (simp; omega)))) H0.out).mono ?_
  rintro e w3 ⟨rfl, hb3⟩
  have kw3 : Below w.heap.size w w3 := below_on (by repeat' (first | assumption | with_reducible exact Below.refl _ _ | with_reducible apply Below.drew | with_reducible apply below_drewN | with_reducible apply below_alloc | with_reducible refine below_set ?_ ?_ _ | (simp only [World.size_alloc, World.heap_drewN]; omega) | (simp; omega))) hb3
  have zw3 := kw3.size
  have kP03 : Below (w.alloc (.cells #[.int .i64 all, .slice A1 n1 c1, .slice A2 n1 c2] 40)).heap.size (w.alloc (.cells #[.int .i64 all, .slice A1 n1 c1, .slice A2 n1 c2] 40)) w3 := below_on (by repeat' (first | assumption | with_reducible exact Below.refl _ _ | with_reducible apply Below.drew | with_reducible apply below_drewN | with_reducible apply below_alloc | with_reducible refine below_set ?_ ?_ _ | (simp only [World.size_alloc, World.heap_drewN]; omega) | (simp; omega))) hb3
  have zP03 := kP03.size
  have kw23 : Below w2.heap.size w2 w3 := below_on (by repeat' (first | assumption | with_reducible exact Below.refl _ _ | with_reducible apply Below.drew | with_reducible apply below_drewN | with_reducible apply below_alloc | with_reducible refine below_set ?_ ?_ _ | (simp only [World.size_alloc, World.heap_drewN]; omega) | (simp; omega))) hb3
  have zw23 := kw23.size
  have pb_3 := (pb0).below kP03 (pb0).lt
  have lpb_3 := pb_3.lt
  have cpb0 := pb_3.at_ (i := 0) rfl
  have cpb1 := pb_3.at_ (i := 1) rfl
  have cpb2 := pb_3.at_ (i := 2) rfl
  have sx_3 := (h1).on kw3
  have sy_3 := (h2).on kw3
  have sl_3 := (own3.sl).on kw23
  simp only [World.size_alloc, World.heap_drewN] at zw3 zP03 zw23
  go_wp2_with fail
  refine (aliasCheck_is (sx_3.on (by repeat' (first | assumption | with_reducible exact Below.refl _ _ | with_reducible apply Below.drew | with_reducible apply below_drewN | with_reducible apply below_alloc | with_reducible refine below_set ?_ ?_ _ | (simp only [World.size_alloc, World.heap_drewN]; omega) | (simp; omega)))) (sy_3.on (by repeat' (first | assumption | with_reducible exact Below.refl _ _ | with_reducible apply Below.drew | with_reducible apply below_drewN | with_reducible apply below_alloc | with_reducible refine below_set ?_ ?_ _ | (simp only [World.size_alloc, World.heap_drewN]; omega) | (simp; omega)))) H0.out).mono ?_
  rintro e w4 ⟨rfl, hb4⟩
  have kw4 : Below w.heap.size w w4 := below_on (by repeat' (first | assumption | with_reducible exact Below.refl _ _ | with_reducible apply Below.drew | with_reducible apply below_drewN | with_reducible apply below_alloc | with_reducible refine below_set ?_ ?_ _ | (simp only [World.size_alloc, World.heap_drewN]; omega) | (simp; omega))) hb4
  have zw4 := kw4.size
  have kP04 : Below (w.alloc (.cells #[.int .i64 all, .slice A1 n1 c1, .slice A2 n1 c2] 40)).heap.size (w.alloc (.cells #[.int .i64 all, .slice A1 n1 c1, .slice A2 n1 c2] 40)) w4 := below_on (by repeat' (first | assumption | with_reducible exact Below.refl _ _ | with_reducible apply Below.drew | with_reducible apply below_drewN | with_reducible apply below_alloc | with_reducible refine below_set ?_ ?_ _ | (simp only [World.size_alloc, World.heap_drewN]; omega) | (simp; omega))) hb4
  have zP04 := kP04.size
  have kw24 : Below w2.heap.size w2 w4 := below_on (by repeat' (first | assumption | with_reducible exact Below.refl _ _ | with_reducible apply Below.drew | with_reducible apply below_drewN | with_reducible apply below_alloc | with_reducible refine below_set ?_ ?_ _ | (simp only [World.size_alloc, World.heap_drewN]; omega) | (simp; omega))) hb4
  have zw24 := kw24.size
  have pb_4 := (pb0).below kP04 (pb0).lt
  have lpb_4 := pb_4.lt
  have cpb0 := pb_4.at_ (i := 0) rfl
  have cpb1 := pb_4.at_ (i := 1) rfl
  have cpb2 := pb_4.at_ (i := 2) rfl
  have sx_4 := (h1).on kw4
  have sy_4 := (h2).on kw4
  have sl_4 := (own3.sl).on kw24
  simp only [World.size_alloc, World.heap_drewN] at zw4 zP04 zw24
  go_wp2_with fail
  refine (aliasCheck_is (own := []) (rest := []) (Sl.nil _ _ _) (Sl.nil _ _ _) aliasErr_none).mono ?_
  rintro e w5 ⟨rfl, hb5⟩
  have kw5 : Below w.heap.size w w5 := below_on (by repeat' (first | assumption | with_reducible exact Below.refl _ _ | with_reducible apply Below.drew | with_reducible apply below_drewN | with_reducible apply below_alloc | with_reducible refine below_set ?_ ?_ _ | (simp only [World.size_alloc, World.heap_drewN]; omega) | (simp; omega))) hb5
  have zw5 := kw5.size
  have kP05 : Below (w.alloc (.cells #[.int .i64 all, .slice A1 n1 c1, .slice A2 n1 c2] 40)).heap.size (w.alloc (.cells #[.int .i64 all, .slice A1 n1 c1, .slice A2 n1 c2] 40)) w5 := below_on (by repeat' (first | assumption | with_reducible exact Below.refl _ _ | with_reducible apply Below.drew | with_reducible apply below_drewN | with_reducible apply below_alloc | with_reducible refine below_set ?_ ?_ _ | (simp only [World.size_alloc, World.heap_drewN]; omega) | (simp; omega))) hb5
  have zP05 := kP05.size
  have kw25 : Below w2.heap.size w2 w5 := below_on (by repeat' (first | assumption | with_reducible exact Below.refl _ _ | with_reducible apply Below.drew | with_reducible apply below_drewN | with_reducible apply below_alloc | with_reducible refine below_set ?_ ?_ _ | (simp only [World.size_alloc, World.heap_drewN]; omega) | (simp; omega))) hb5
  have zw25 := kw25.size
  have pb_5 := (pb0).below kP05 (pb0).lt
  have lpb_5 := pb_5.lt
  have cpb0 := pb_5.at_ (i := 0) rfl
  have cpb1 := pb_5.at_ (i := 1) rfl
  have cpb2 := pb_5.at_ (i := 2) rfl
  have sx_5 := (h1).on kw5
  have sy_5 := (h2).on kw5
  have sl_5 := (own3.sl).on kw25
  simp only [World.size_alloc, World.heap_drewN] at zw5 zP05 zw25
  go_wp2_with (at_make; refine wpList_make_sl T_int rfl rfl _ _ rfl (by rfl) (by rfl) (by omega) (by simp only [maxLen]; omega) ?_; intro w6 own6 hb6; have pb6 := pb_5.below hb6 pb_5.lt; have p1 := pb6.at_ (i := 1) rfl)
  have hw6 : Below w.heap.size w w6 := below_on kw5 hb6
  have lb5 := pb_5.lt
  rw [ints_zero] at own6
  clear cpb0 cpb1 cpb2
  go_loopw [64] (fun i wr => ∃ k : Nat, k ≤ n1 ∧ i = .int .i64 k ∧ Blk wr w.heap.size 40 #[.int .i64 all, .slice A1 n1 c1, .slice A2 n1 c2] ∧ Own wr w5.heap.size 3 1 (some ⟨w5.heap.size, 0, none⟩) n1 n1 (ints (shareTo all n1 own rest k)) ∧ Below w5.heap.size w5 wr) (fun i _ => n1 - (intOf i).toNat)
  case atStart => exact ⟨0, Nat.zero_le _, rfl, pb6, own6, hb6⟩
  case round =>
    obtain ⟨k, hk, rfl, pb, hown, hb⟩ := hrel
    have hwr : Below w.heap.size w wr := below_on kw5 hb
    have p0 := pb.at_ (i := 0) rfl
    have p1 := pb.at_ (i := 1) rfl
    have p2 := pb.at_ (i := 2) rfl
    by_cases hlt : k < n1
    · obtain ⟨ad, o, eA, hbo, ho, hco⟩ := h1.icell hlt
      obtain ⟨ae, r, eB, hbr, hr, hcr⟩ := h2.icell hlt
      subst eA
      subst eB
      obtain ⟨o1, o2, r1, r2⟩ := cellOk_true ho hr (okTo_at n1 HOK.out hlt)
      obtain ⟨rn, rfl⟩ := Int.eq_ofNat_of_zero_le r1
      have hrn : rn < n1 := by omega
      have hsl := shareTo_len all n1 own rest k
      have hB := HB.out k (by omega)
      have hka : (k : Int) * all ≤ 1600000000000000 := by
        have := Int.mul_le_mul (show (k : Int) ≤ 40 by omega) g5 (by omega) (by omega)
        omega
      have HN := hide (show shareTo all n1 own rest (k + 1) = inc (shareTo all n1 own rest k) k rn o (all - o) by
        rw [shareTo, getD_of ho, getD_of hr, Int.toNat_natCast])
      obtain ⟨s, hs⟩ : ∃ s, s = shareTo all n1 own rest k := ⟨_, rfl⟩
      rw [← hs] at hsl hB hown
      have HS := hide hs
      have HSL := hide hsl
      have HBB := hide hB
      have s1 : IntKind.i64.wrap (all - o) = all - o := IntWalk.i64_in _ (by omega)
      clear ho hr hB hs p1 p2 hsl
      have p1 := pb.at_ (i := 1) rfl
      obtain ⟨wo, rfl⟩ : ∃ wo : World, wo = wr := ⟨_, rfl⟩
      go_wp2
      clear p0 p1
      go_loopw [69] (fun i wr => ∃ m : Nat, m ≤ n1 ∧ i = .int .i64 m ∧ Blk wr w.heap.size 40 #[.int .i64 all, .slice (some ad) n1 c1, .slice (some ae) n1 c2] ∧ Own wr w5.heap.size 3 1 (some ⟨w5.heap.size, 0, none⟩) n1 n1 (ints (incTo s k rn o (all - o) m)) ∧ Below w5.heap.size w5 wr) (fun i _ => n1 - (intOf i).toNat)
      case atStart => exact ⟨0, Nat.zero_le _, rfl, pb, by rw [incTo_zero]; exact hown, hb⟩
      case round =>
        obtain ⟨m, hm', rfl, pb, hown, hb⟩ := hrel
        have hwr : Below w.heap.size w wr := below_on kw5 hb
        have p0 := pb.at_ (i := 0) rfl
        have p1 := pb.at_ (i := 1) rfl
        have p2 := pb.at_ (i := 2) rfl
        have hco' := (hwr.cell (by rw [add_block]; exact hbo)).trans hco
        have hcr' := (hwr.cell (by rw [add_block]; exact hbr)).trans hcr
        by_cases hlm : m < n1
        · obtain ⟨v, hv⟩ : ∃ v, s[m]? = some v := ⟨_, List.getElem?_eq_getElem (by rw [HSL.out]; omega)⟩
          obtain ⟨v1, v2⟩ := HBB.out.at_ hv
          have v3 : v ≤ 1600000000000000 := by omega
          have cv := hown.cell (ints_at (incTo_at (i := k) (r := rn) (o := o) (d := all - o) hv))
          have fv := hown.free m
          have HV := hide (incTo_next (i := k) (r := rn) (o := o) (d := all - o) hv)
          have ne1 : ¬ w.heap.size = w5.heap.size := by omega
          have ne2 : ¬ w5.heap.size = w.heap.size := by omega
          have s2 : IntKind.i64.wrap (v + o + (all - o)) = v + o + (all - o) := IntWalk.i64_in _ (by omega)
          have s3 : IntKind.i64.wrap (v + (all - o)) = v + (all - o) := IntWalk.i64_in _ (by omega)
          have hcr2 : ∀ u, (wr.setCell ⟨w5.heap.size, m, none⟩ u).cell? (ae.add k) = some (.int .i64 rn) := by
            intro u
            rw [World.cell?_setCell_other _ _ _ _ (fun e => by have := congrArg Addr.block e; rw [add_block] at this; simp at this; omega)]; exact hcr'
          have hco2 : ∀ u, (wr.setCell ⟨w5.heap.size, m, none⟩ u).cell? (ad.add k) = some (.int .i64 o) := by
            intro u
            rw [World.cell?_setCell_other _ _ _ _ (fun e => by have := congrArg Addr.block e; rw [add_block] at this; simp at this; omega)]; exact hco'
          have hvm := hv
          clear v2
          have HVM := hide (incTo_at (i := k) (r := rn) (o := o) (d := all - o) hvm)
          clear hv hvm
          by_cases q1 : k = m
          · have HQ1 := hide q1
            have t1 : ((k : Int) == (m : Int)) = true := by simp [q1]
            by_cases q2 : rn = m
            · have HQ2 := hide q2
              have t2 : ((rn : Int) == (m : Int)) = true := by simp [q2]
              clear q1 q2
              go_wp2
              go_region
              all_goals go_wp2
              go_region
              all_goals go_wp2
              go_roundw
              case rel =>
                refine ⟨m + 1, by omega, by go_num, ((pb.far (by dsimp only; omega) _).far (by dsimp only; omega) _), ?_, ((hb.setCell (Nat.le_refl _) _).setCell (Nat.le_refl _) _).drew.drew⟩
                · rw [HV.out, if_pos HQ1.out.symm, if_pos HQ2.out.symm, ints_set]
                  have hh := (hown.set m (.int .i64 (v + o))).set m (.int .i64 (v + o + (all - o)))
                  rwa [List.set_set] at hh
              case measure => simp [intOf]; omega
            · have HQ2 := hide q2
              have t2 : ((rn : Int) == (m : Int)) = false := by simp; omega
              clear q1 q2
              go_wp2
              go_region
              all_goals go_wp2
              go_roundw
              case rel =>
                refine ⟨m + 1, by omega, by go_num, (pb.far (by dsimp only; omega) _), ?_, (hb.setCell (Nat.le_refl _) _).drew⟩
                · rw [HV.out, if_pos HQ1.out.symm, if_neg (fun e => HQ2.out e.symm), Int.add_zero, ints_set]
                  exact hown.set m (.int .i64 (v + o))
              case measure => simp [intOf]; omega
          · have HQ1 := hide q1
            have t1 : ((k : Int) == (m : Int)) = false := by simp; omega
            by_cases q2 : rn = m
            · have HQ2 := hide q2
              have t2 : ((rn : Int) == (m : Int)) = true := by simp [q2]
              clear q1 q2
              go_wp2
              go_region
              all_goals go_wp2
              go_roundw
              case rel =>
                refine ⟨m + 1, by omega, by go_num, (pb.far (by dsimp only; omega) _), ?_, (hb.setCell (Nat.le_refl _) _).drew⟩
                · rw [HV.out, if_neg (fun e => HQ1.out e.symm), if_pos HQ2.out.symm, Int.add_zero, ints_set]
                  exact hown.set m (.int .i64 (v + (all - o)))
              case measure => simp [intOf]; omega
            · have HQ2 := hide q2
              have t2 : ((rn : Int) == (m : Int)) = false := by simp; omega
              clear q1 q2
              go_wp2
              go_roundw
              case rel =>
                refine ⟨m + 1, by omega, by go_num, pb, ?_, hb⟩
                · rw [HV.out, if_neg (fun e => HQ1.out e.symm), if_neg (fun e => HQ2.out e.symm), Int.add_zero, Int.add_zero, set_same HVM.out]
                  exact hown
              case measure => simp [intOf]; omega
        · obtain rfl : m = n1 := by omega
          have HE := hide (incTo_all s k rn o (all - o))
          go_wp2
          go_roundw
          case rel =>
            refine ⟨k + 1, by omega, by go_num, pb, ?_, hb⟩
            rw [HN.out, ← HS.out, ← HE.out, HSL.out]
            exact hown
          case measure => simp [intOf]; omega
    · obtain rfl : k = n1 := by omega
      have k2r : Below w2.heap.size w2 wr := below_on kw25 hb
      go_wp2_with fail
      refine (equal_yes A3 _ k c3 k (shareTo all k own rest k) _ (own3.sl.on k2r) hown.sl).mono ?_
      rintro e w7 ⟨rfl, q, rfl⟩
      rcases HC.out with ⟨hbad, rfl, rfl⟩ | ⟨j, x, y, rfl, j1, j2, j3, jx, jy, rfl, jv⟩
      · have key : (col < 0) ∨ (¬ col < 0 ∧ (k : Int) ≤ col) ∨ (¬ col < 0 ∧ col < (k : Int) ∧ part < 0) ∨ (¬ col < 0 ∧ col < (k : Int) ∧ ¬ part < 0 ∧ all ≤ part) := by omega
        clear hbad
        rcases key with u1 | ⟨u1, u2⟩ | ⟨u1, u2, u3⟩ | ⟨u1, u2, u3, u4⟩
        all_goals
          go_wp2_with fail
          go_ret
          exact ⟨rfl, below_drewN hwr _⟩
      · obtain ⟨ad, eA, _, hcx⟩ := (h1.on hwr).cell (ints_at jx)
        obtain ⟨ae, eB, _, hcy⟩ := (h2.on hwr).cell (ints_at jy)
        subst eA
        subst eB
        clear jx jy
        have j4 : (0 : Int) ≤ (j : Int) := by omega
        have j5 : (j : Int) < (k : Int) := by omega
        have HV := hide jv
        clear jv
        by_cases hlt : part < x
        · have hv : pv = j := by rw [HV.out, if_pos hlt]
          subst hv
          go_wp2_with fail
          go_ret
          exact ⟨rfl, below_drewN hwr _⟩
        · have hv : pv = y := by rw [HV.out, if_neg hlt]
          subst hv
          go_wp2_with fail
          go_ret
          exact ⟨rfl, below_drewN hwr _⟩
theorem law_tells (all : Int) (A1 : Option Addr) (n1 c1 : Nat) (own : List Int) (A2 : Option Addr) (n2 c2 : Nat) (rest : List Int) (col part : Int) (w : World) (h1 : Si w A1 n1 c1 own) (h2 : Si w A2 n2 c2 rest) :
    Calls Try.prog 6 #[.agg #[.int .i64 all, .slice A1 n1 c1, .slice A2 n2 c2], .int .i64 col, .int .i64 part] w fun e w' => e = .returned (.bool true) ∧ Below w.heap.size w w' := by
  by_cases h : aliasErr all n1 n2 own rest = 0
  · obtain rfl : n1 = n2 := (aliasErr_zero h).2.1.symm
    exact law_tells_good h1 h2 h
  · exact law_tells_bad h1 h2 h
end
end Go.Proofs.Ytgejpinepkockaa
