/-
  The walk of the law TableSays, case by case (U1). Conditions: the rows read as lists of numbers.
-/
import Derived.Test.YtjmkejindmgckaaLawTable
namespace Go.Proofs.Ytjmkejindmgckaa
open Go.RowKit


set_option maxRecDepth 100000 in
set_option maxHeartbeats 6400000 in
theorem law_table_bad1 {A A2 : Option Addr} {n c n2 c2 m : Nat} {W2 key x : Int} {os os2 : List Row} {w : World} (h : Ss w A n c os) (h2 : Ss w A2 n2 c2 os2) (he : tabErr (m : Int) n (rows os) = 0) (hx : ¬ (0 ≤ x ∧ x ≤ 1000000000000)) {E3 : Int} (he3 : tabErr W2 n2 (rows os2) = E3) (h3 : ¬ E3 = 0) :
    Calls Try.prog 8 #[.agg #[.int .i64 (m : Int), .slice A n c], .agg #[.int .i64 W2, .slice A2 n2 c2], .int .i64 key, .int .i64 x] w fun e w' => e = .returned (.bool true) ∧ Below w.heap.size w w' := by
  have hm1 := h.s.len_max
  have hm2 := h2.s.len_max
  obtain ⟨w9, hw9⟩ : ∃ w9 : World, w = w9 := ⟨_, rfl⟩
  have HE := hide he
  have HK := hide (tabOk_rows h he)
  have m1 : 1 ≤ m := by have := HK.out.w1; omega
  have m2 : m ≤ 32 := by have := HK.out.w2; omega
  have n4 := HK.out.n2
  have HROWS := hide (fun (w : World) (h : Ss w A n c os) => rrows_is (W := (m : Int)) h he)
  have HASK := hide (fun (w : World) (h : Ss w A n c os) => task_ok (key := key) h he)
  obtain ⟨p, hp⟩ : ∃ p, plcI m key = p := ⟨_, rfl⟩
  have HPL := hide (show ∀ i, i < 1000 → p i < m from fun i hi => by rw [← hp]; exact plcI_lt m1 key i)
  have HCP := hide (show ∀ (w : World) (i : Nat), i < 1000 → Calls Try.prog 45 #[.agg #[.int .i64 (m : Int), .slice A n c], .int .i64 (i : Int), .int .i64 key] w fun e w' => e = .returned (.int .i64 (p i)) ∧ Below w.heap.size w w' from fun w i hi => by rw [← hp]; exact rplace_any m1 m2 hi)
  rw [hp] at HASK
  have HROWS2 := hide (fun (w : World) (h : Ss w A2 n2 c2 os2) => rrows_is (W := W2) h he3)
  have HJ := hide (show tjErr (m : Int) n (rows os) W2 n2 (rows os2) = E3 by unfold tjErr; rw [he, if_neg (by simp), he3, if_pos h3])
  have HJ0 := hide h3
  have t3 : (E3 != 0) = true := by simpa using h3
  have t4 : (E3 == 0) = false := by simpa using h3
  have t5 : (E3 == E3) = true := by simp
  clear he3 h3
  have HX := hide hx
  have tx := inR_no hx
  clear hx he hp m1 m2
  subst hw9
  have b4 := (((Blk.new w 65 #[.int .i64 (m : Int), .slice A n c]).alloc (.cells #[.int .i64 W2, .slice A2 n2 c2] 65)).alloc (.cells #[.int .i64 key] 3)).alloc (.cells #[.int .i64 x] 3)
  have b5 := ((Blk.new (w.alloc (.cells #[.int .i64 (m : Int), .slice A n c] 65)) 65 #[.int .i64 W2, .slice A2 n2 c2]).alloc (.cells #[.int .i64 key] 3)).alloc (.cells #[.int .i64 x] 3)
  have b6 := (Blk.new ((w.alloc (.cells #[.int .i64 (m : Int), .slice A n c] 65)).alloc (.cells #[.int .i64 W2, .slice A2 n2 c2] 65)) 3 #[.int .i64 key]).alloc (.cells #[.int .i64 x] 3)
  have b7 := Blk.new (((w.alloc (.cells #[.int .i64 (m : Int), .slice A n c] 65)).alloc (.cells #[.int .i64 W2, .slice A2 n2 c2] 65)).alloc (.cells #[.int .i64 key] 3)) 3 #[.int .i64 x]
  simp only [World.size_alloc] at b5 b6 b7
  have hkw : Below w.heap.size w ((((w.alloc (.cells #[.int .i64 (m : Int), .slice A n c] 65)).alloc (.cells #[.int .i64 W2, .slice A2 n2 c2] 65)).alloc (.cells #[.int .i64 key] 3)).alloc (.cells #[.int .i64 x] 3)) := by repeat' (first | assumption | with_reducible exact Below.refl _ _ | with_reducible apply Below.drew | with_reducible apply below_drewN | with_reducible apply below_alloc | with_reducible refine below_set ?_ ?_ _ | (simp only [World.size_alloc, World.heap_drewN]; omega) | (simp; omega))
  have H4 := hide b4
  have H5 := hide b5
  have H6 := hide b6
  have H7 := hide b7
  have HKW := hide hkw
  clear b4 b5 b6 b7 hkw
  go_enter Try.func8, Try.ntmps8
  go_wp2_with fail
  have kw := HKW.out
  refine (tput_arg (h.on HKW.out) HE.out HX.out).mono ?_
  rintro e w1 ⟨Ax, nx, cx, ox, rfl, sx, hrx, hb1⟩
  have kk1 := hb1
  have kw1 : Below w.heap.size w w1 := below_on kw kk1
  have zz1 := kk1.size
  have B4_1 := (H4.out).below kk1 (H4.out).lt
  have B5_1 := (H5.out).below kk1 (H5.out).lt
  have B6_1 := (H6.out).below kk1 (H6.out).lt
  have B7_1 := (H7.out).below kk1 (H7.out).lt
  have l4_1 : w.heap.size < w1.heap.size := B4_1.lt
  have c40_1 : w1.cell? ⟨w.heap.size, 0, none⟩ = some (.int .i64 (m : Int)) := B4_1.at_ (i := 0) rfl
  have c41_1 : w1.cell? ⟨w.heap.size, 1, none⟩ = some (.slice A n c) := B4_1.at_ (i := 1) rfl
  have l5_1 : w.heap.size + 1 < w1.heap.size := B5_1.lt
  have c50_1 : w1.cell? ⟨w.heap.size + 1, 0, none⟩ = some (.int .i64 W2) := B5_1.at_ (i := 0) rfl
  have c51_1 : w1.cell? ⟨w.heap.size + 1, 1, none⟩ = some (.slice A2 n2 c2) := B5_1.at_ (i := 1) rfl
  have l6_1 : w.heap.size + 1 + 1 < w1.heap.size := B6_1.lt
  have c60_1 : w1.cell? ⟨w.heap.size + 1 + 1, 0, none⟩ = some (.int .i64 key) := B6_1.at_ (i := 0) rfl
  have l7_1 : w.heap.size + 1 + 1 + 1 < w1.heap.size := B7_1.lt
  have c70_1 : w1.cell? ⟨w.heap.size + 1 + 1 + 1, 0, none⟩ = some (.int .i64 x) := B7_1.at_ (i := 0) rfl
  have HRX := hide hrx
  clear hrx
  go_wp2_with fail
  refine (HASK.out _ (h.on (by repeat' (first | assumption | with_reducible exact Below.refl _ _ | with_reducible apply Below.drew | with_reducible apply below_drewN | with_reducible apply below_alloc | with_reducible refine below_set ?_ ?_ _ | (simp only [World.size_alloc, World.heap_drewN]; omega) | (simp; omega))))).mono ?_
  rintro e w2 ⟨rfl, hb2⟩
  have kk2 : Below w1.heap.size w1 w2 := below_on (by repeat' (first | assumption | with_reducible exact Below.refl _ _ | with_reducible apply Below.drew | with_reducible apply below_drewN | with_reducible apply below_alloc | with_reducible refine below_set ?_ ?_ _ | (simp only [World.size_alloc, World.heap_drewN]; omega) | (simp; omega))) hb2
  have kw2 : Below w.heap.size w w2 := below_on kw1 kk2
  have zz2 := kk2.size
  have B4_2 := (B4_1).below kk2 (B4_1).lt
  have B5_2 := (B5_1).below kk2 (B5_1).lt
  have B6_2 := (B6_1).below kk2 (B6_1).lt
  have B7_2 := (B7_1).below kk2 (B7_1).lt
  have B9_2 := (Blk.new w1 65 #[.int .i64 0, .slice Ax nx cx]).below hb2 (Blk.new w1 65 #[.int .i64 0, .slice Ax nx cx]).lt
  have l4_2 : w.heap.size < w2.heap.size := B4_2.lt
  have c40_2 : w2.cell? ⟨w.heap.size, 0, none⟩ = some (.int .i64 (m : Int)) := B4_2.at_ (i := 0) rfl
  have c41_2 : w2.cell? ⟨w.heap.size, 1, none⟩ = some (.slice A n c) := B4_2.at_ (i := 1) rfl
  have l5_2 : w.heap.size + 1 < w2.heap.size := B5_2.lt
  have c50_2 : w2.cell? ⟨w.heap.size + 1, 0, none⟩ = some (.int .i64 W2) := B5_2.at_ (i := 0) rfl
  have c51_2 : w2.cell? ⟨w.heap.size + 1, 1, none⟩ = some (.slice A2 n2 c2) := B5_2.at_ (i := 1) rfl
  have l6_2 : w.heap.size + 1 + 1 < w2.heap.size := B6_2.lt
  have c60_2 : w2.cell? ⟨w.heap.size + 1 + 1, 0, none⟩ = some (.int .i64 key) := B6_2.at_ (i := 0) rfl
  have l7_2 : w.heap.size + 1 + 1 + 1 < w2.heap.size := B7_2.lt
  have c70_2 : w2.cell? ⟨w.heap.size + 1 + 1 + 1, 0, none⟩ = some (.int .i64 x) := B7_2.at_ (i := 0) rfl
  have l9_2 : w1.heap.size < w2.heap.size := B9_2.lt
  have c90_2 : w2.cell? ⟨w1.heap.size, 0, none⟩ = some (.int .i64 0) := B9_2.at_ (i := 0) rfl
  have c91_2 : w2.cell? ⟨w1.heap.size, 1, none⟩ = some (.slice Ax nx cx) := B9_2.at_ (i := 1) rfl
  have Sx_2 := (sx).on kk2
  clear B4_1 l4_1 c40_1 c41_1 B5_1 l5_1 c50_1 c51_1 B6_1 l6_1 c60_1 B7_1 l7_1 c70_1 kk2
  go_wp2_with fail
  refine (tjoin_bad (h.on (by repeat' (first | assumption | with_reducible exact Below.refl _ _ | with_reducible apply Below.drew | with_reducible apply below_drewN | with_reducible apply below_alloc | with_reducible refine below_set ?_ ?_ _ | (simp only [World.size_alloc, World.heap_drewN]; omega) | (simp; omega)))) (h2.on (by repeat' (first | assumption | with_reducible exact Below.refl _ _ | with_reducible apply Below.drew | with_reducible apply below_drewN | with_reducible apply below_alloc | with_reducible refine below_set ?_ ?_ _ | (simp only [World.size_alloc, World.heap_drewN]; omega) | (simp; omega)))) HJ.out HJ0.out).mono ?_
  rintro e w3 ⟨Ay, ny, cy, oy, rfl, sy, hry, hb3⟩
  have kk3 : Below w2.heap.size w2 w3 := below_on (by repeat' (first | assumption | with_reducible exact Below.refl _ _ | with_reducible apply Below.drew | with_reducible apply below_drewN | with_reducible apply below_alloc | with_reducible refine below_set ?_ ?_ _ | (simp only [World.size_alloc, World.heap_drewN]; omega) | (simp; omega))) hb3
  have kw3 : Below w.heap.size w w3 := below_on kw2 kk3
  have zz3 := kk3.size
  have B4_3 := (B4_2).below kk3 (B4_2).lt
  have B5_3 := (B5_2).below kk3 (B5_2).lt
  have B6_3 := (B6_2).below kk3 (B6_2).lt
  have B7_3 := (B7_2).below kk3 (B7_2).lt
  have B9_3 := (B9_2).below kk3 (B9_2).lt
  have l4_3 : w.heap.size < w3.heap.size := B4_3.lt
  have c40_3 : w3.cell? ⟨w.heap.size, 0, none⟩ = some (.int .i64 (m : Int)) := B4_3.at_ (i := 0) rfl
  have c41_3 : w3.cell? ⟨w.heap.size, 1, none⟩ = some (.slice A n c) := B4_3.at_ (i := 1) rfl
  have l5_3 : w.heap.size + 1 < w3.heap.size := B5_3.lt
  have c50_3 : w3.cell? ⟨w.heap.size + 1, 0, none⟩ = some (.int .i64 W2) := B5_3.at_ (i := 0) rfl
  have c51_3 : w3.cell? ⟨w.heap.size + 1, 1, none⟩ = some (.slice A2 n2 c2) := B5_3.at_ (i := 1) rfl
  have l6_3 : w.heap.size + 1 + 1 < w3.heap.size := B6_3.lt
  have c60_3 : w3.cell? ⟨w.heap.size + 1 + 1, 0, none⟩ = some (.int .i64 key) := B6_3.at_ (i := 0) rfl
  have l7_3 : w.heap.size + 1 + 1 + 1 < w3.heap.size := B7_3.lt
  have c70_3 : w3.cell? ⟨w.heap.size + 1 + 1 + 1, 0, none⟩ = some (.int .i64 x) := B7_3.at_ (i := 0) rfl
  have l9_3 : w1.heap.size < w3.heap.size := B9_3.lt
  have c90_3 : w3.cell? ⟨w1.heap.size, 0, none⟩ = some (.int .i64 0) := B9_3.at_ (i := 0) rfl
  have c91_3 : w3.cell? ⟨w1.heap.size, 1, none⟩ = some (.slice Ax nx cx) := B9_3.at_ (i := 1) rfl
  have Sx_3 := (Sx_2).on kk3
  clear B4_2 l4_2 c40_2 c41_2 B5_2 l5_2 c50_2 c51_2 B6_2 l6_2 c60_2 B7_2 l7_2 c70_2 B9_2 l9_2 c90_2 c91_2 Sx_2 kk3
  have HRY := hide hry
  clear hry
  go_wp2_with fail
  refine (HROWS.out _ (h.on (by repeat' (first | assumption | with_reducible exact Below.refl _ _ | with_reducible apply Below.drew | with_reducible apply below_drewN | with_reducible apply below_alloc | with_reducible refine below_set ?_ ?_ _ | (simp only [World.size_alloc, World.heap_drewN]; omega) | (simp; omega))))).mono ?_
  rintro e w4 ⟨rfl, hb4⟩
  have kk4 : Below w3.heap.size w3 w4 := below_on (by repeat' (first | assumption | with_reducible exact Below.refl _ _ | with_reducible apply Below.drew | with_reducible apply below_drewN | with_reducible apply below_alloc | with_reducible refine below_set ?_ ?_ _ | (simp only [World.size_alloc, World.heap_drewN]; omega) | (simp; omega))) hb4
  have kw4 : Below w.heap.size w w4 := below_on kw3 kk4
  have zz4 := kk4.size
  have B4_4 := (B4_3).below kk4 (B4_3).lt
  have B5_4 := (B5_3).below kk4 (B5_3).lt
  have B6_4 := (B6_3).below kk4 (B6_3).lt
  have B7_4 := (B7_3).below kk4 (B7_3).lt
  have B9_4 := (B9_3).below kk4 (B9_3).lt
  have B13_4 := (Blk.new w3 65 #[.int .i64 0, .slice Ay ny cy]).below hb4 (Blk.new w3 65 #[.int .i64 0, .slice Ay ny cy]).lt
  have l4_4 : w.heap.size < w4.heap.size := B4_4.lt
  have c40_4 : w4.cell? ⟨w.heap.size, 0, none⟩ = some (.int .i64 (m : Int)) := B4_4.at_ (i := 0) rfl
  have c41_4 : w4.cell? ⟨w.heap.size, 1, none⟩ = some (.slice A n c) := B4_4.at_ (i := 1) rfl
  have l5_4 : w.heap.size + 1 < w4.heap.size := B5_4.lt
  have c50_4 : w4.cell? ⟨w.heap.size + 1, 0, none⟩ = some (.int .i64 W2) := B5_4.at_ (i := 0) rfl
  have c51_4 : w4.cell? ⟨w.heap.size + 1, 1, none⟩ = some (.slice A2 n2 c2) := B5_4.at_ (i := 1) rfl
  have l6_4 : w.heap.size + 1 + 1 < w4.heap.size := B6_4.lt
  have c60_4 : w4.cell? ⟨w.heap.size + 1 + 1, 0, none⟩ = some (.int .i64 key) := B6_4.at_ (i := 0) rfl
  have l7_4 : w.heap.size + 1 + 1 + 1 < w4.heap.size := B7_4.lt
  have c70_4 : w4.cell? ⟨w.heap.size + 1 + 1 + 1, 0, none⟩ = some (.int .i64 x) := B7_4.at_ (i := 0) rfl
  have l9_4 : w1.heap.size < w4.heap.size := B9_4.lt
  have c90_4 : w4.cell? ⟨w1.heap.size, 0, none⟩ = some (.int .i64 0) := B9_4.at_ (i := 0) rfl
  have c91_4 : w4.cell? ⟨w1.heap.size, 1, none⟩ = some (.slice Ax nx cx) := B9_4.at_ (i := 1) rfl
  have l13_4 : w3.heap.size < w4.heap.size := B13_4.lt
  have c130_4 : w4.cell? ⟨w3.heap.size, 0, none⟩ = some (.int .i64 0) := B13_4.at_ (i := 0) rfl
  have c131_4 : w4.cell? ⟨w3.heap.size, 1, none⟩ = some (.slice Ay ny cy) := B13_4.at_ (i := 1) rfl
  have Sx_4 := (Sx_3).on kk4
  have Sy_4 := (sy).on kk4
  clear B4_3 l4_3 c40_3 c41_3 B5_3 l5_3 c50_3 c51_3 B6_3 l6_3 c60_3 B7_3 l7_3 c70_3 B9_3 l9_3 c90_3 c91_3 Sx_3 kk4
  go_wp2_with fail
  refine (tcheck_is (h.on (by repeat' (first | assumption | with_reducible exact Below.refl _ _ | with_reducible apply Below.drew | with_reducible apply below_drewN | with_reducible apply below_alloc | with_reducible refine below_set ?_ ?_ _ | (simp only [World.size_alloc, World.heap_drewN]; omega) | (simp; omega)))) HE.out).mono ?_
  rintro e w5 ⟨rfl, hb5⟩
  have kk5 : Below w4.heap.size w4 w5 := below_on (by repeat' (first | assumption | with_reducible exact Below.refl _ _ | with_reducible apply Below.drew | with_reducible apply below_drewN | with_reducible apply below_alloc | with_reducible refine below_set ?_ ?_ _ | (simp only [World.size_alloc, World.heap_drewN]; omega) | (simp; omega))) hb5
  have kw5 : Below w.heap.size w w5 := below_on kw4 kk5
  have zz5 := kk5.size
  have B4_5 := (B4_4).below kk5 (B4_4).lt
  have B5_5 := (B5_4).below kk5 (B5_4).lt
  have B6_5 := (B6_4).below kk5 (B6_4).lt
  have B7_5 := (B7_4).below kk5 (B7_4).lt
  have B9_5 := (B9_4).below kk5 (B9_4).lt
  have B13_5 := (B13_4).below kk5 (B13_4).lt
  have l4_5 : w.heap.size < w5.heap.size := B4_5.lt
  have c40_5 : w5.cell? ⟨w.heap.size, 0, none⟩ = some (.int .i64 (m : Int)) := B4_5.at_ (i := 0) rfl
  have c41_5 : w5.cell? ⟨w.heap.size, 1, none⟩ = some (.slice A n c) := B4_5.at_ (i := 1) rfl
  have l5_5 : w.heap.size + 1 < w5.heap.size := B5_5.lt
  have c50_5 : w5.cell? ⟨w.heap.size + 1, 0, none⟩ = some (.int .i64 W2) := B5_5.at_ (i := 0) rfl
  have c51_5 : w5.cell? ⟨w.heap.size + 1, 1, none⟩ = some (.slice A2 n2 c2) := B5_5.at_ (i := 1) rfl
  have l6_5 : w.heap.size + 1 + 1 < w5.heap.size := B6_5.lt
  have c60_5 : w5.cell? ⟨w.heap.size + 1 + 1, 0, none⟩ = some (.int .i64 key) := B6_5.at_ (i := 0) rfl
  have l7_5 : w.heap.size + 1 + 1 + 1 < w5.heap.size := B7_5.lt
  have c70_5 : w5.cell? ⟨w.heap.size + 1 + 1 + 1, 0, none⟩ = some (.int .i64 x) := B7_5.at_ (i := 0) rfl
  have l9_5 : w1.heap.size < w5.heap.size := B9_5.lt
  have c90_5 : w5.cell? ⟨w1.heap.size, 0, none⟩ = some (.int .i64 0) := B9_5.at_ (i := 0) rfl
  have c91_5 : w5.cell? ⟨w1.heap.size, 1, none⟩ = some (.slice Ax nx cx) := B9_5.at_ (i := 1) rfl
  have l13_5 : w3.heap.size < w5.heap.size := B13_5.lt
  have c130_5 : w5.cell? ⟨w3.heap.size, 0, none⟩ = some (.int .i64 0) := B13_5.at_ (i := 0) rfl
  have c131_5 : w5.cell? ⟨w3.heap.size, 1, none⟩ = some (.slice Ay ny cy) := B13_5.at_ (i := 1) rfl
  have Sx_5 := (Sx_4).on kk5
  have Sy_5 := (Sy_4).on kk5
  clear B4_4 l4_4 c40_4 c41_4 B5_4 l5_4 c50_4 c51_4 B6_4 l6_4 c60_4 B7_4 l7_4 c70_4 B9_4 l9_4 c90_4 c91_4 B13_4 l13_4 c130_4 c131_4 Sx_4 Sy_4 kk5
  go_wp2_with fail
  refine (tcheck_is (Ss.none _) zero_tab).mono ?_
  rintro e w6 ⟨rfl, hb6⟩
  have kk6 : Below w5.heap.size w5 w6 := below_on (by repeat' (first | assumption | with_reducible exact Below.refl _ _ | with_reducible apply Below.drew | with_reducible apply below_drewN | with_reducible apply below_alloc | with_reducible refine below_set ?_ ?_ _ | (simp only [World.size_alloc, World.heap_drewN]; omega) | (simp; omega))) hb6
  have kw6 : Below w.heap.size w w6 := below_on kw5 kk6
  have zz6 := kk6.size
  have B4_6 := (B4_5).below kk6 (B4_5).lt
  have B5_6 := (B5_5).below kk6 (B5_5).lt
  have B6_6 := (B6_5).below kk6 (B6_5).lt
  have B7_6 := (B7_5).below kk6 (B7_5).lt
  have B9_6 := (B9_5).below kk6 (B9_5).lt
  have B13_6 := (B13_5).below kk6 (B13_5).lt
  have l4_6 : w.heap.size < w6.heap.size := B4_6.lt
  have c40_6 : w6.cell? ⟨w.heap.size, 0, none⟩ = some (.int .i64 (m : Int)) := B4_6.at_ (i := 0) rfl
  have c41_6 : w6.cell? ⟨w.heap.size, 1, none⟩ = some (.slice A n c) := B4_6.at_ (i := 1) rfl
  have l5_6 : w.heap.size + 1 < w6.heap.size := B5_6.lt
  have c50_6 : w6.cell? ⟨w.heap.size + 1, 0, none⟩ = some (.int .i64 W2) := B5_6.at_ (i := 0) rfl
  have c51_6 : w6.cell? ⟨w.heap.size + 1, 1, none⟩ = some (.slice A2 n2 c2) := B5_6.at_ (i := 1) rfl
  have l6_6 : w.heap.size + 1 + 1 < w6.heap.size := B6_6.lt
  have c60_6 : w6.cell? ⟨w.heap.size + 1 + 1, 0, none⟩ = some (.int .i64 key) := B6_6.at_ (i := 0) rfl
  have l7_6 : w.heap.size + 1 + 1 + 1 < w6.heap.size := B7_6.lt
  have c70_6 : w6.cell? ⟨w.heap.size + 1 + 1 + 1, 0, none⟩ = some (.int .i64 x) := B7_6.at_ (i := 0) rfl
  have l9_6 : w1.heap.size < w6.heap.size := B9_6.lt
  have c90_6 : w6.cell? ⟨w1.heap.size, 0, none⟩ = some (.int .i64 0) := B9_6.at_ (i := 0) rfl
  have c91_6 : w6.cell? ⟨w1.heap.size, 1, none⟩ = some (.slice Ax nx cx) := B9_6.at_ (i := 1) rfl
  have l13_6 : w3.heap.size < w6.heap.size := B13_6.lt
  have c130_6 : w6.cell? ⟨w3.heap.size, 0, none⟩ = some (.int .i64 0) := B13_6.at_ (i := 0) rfl
  have c131_6 : w6.cell? ⟨w3.heap.size, 1, none⟩ = some (.slice Ay ny cy) := B13_6.at_ (i := 1) rfl
  have Sx_6 := (Sx_5).on kk6
  have Sy_6 := (Sy_5).on kk6
  clear B4_5 l4_5 c40_5 c41_5 B5_5 l5_5 c50_5 c51_5 B6_5 l6_5 c60_5 B7_5 l7_5 c70_5 B9_5 l9_5 c90_5 c91_5 B13_5 l13_5 c130_5 c131_5 Sx_5 Sy_5 kk6
  go_wp2_with fail
  have K6 := hide kw6
  go_loopw [16, 85] (fun v i wr => ∃ k : Nat, k ≤ n ∧ i = .int .i64 k ∧ v = .int .i64 (leastTo p (rows os) k) ∧ Below w6.heap.size w6 wr) (fun _ i _ => n - (intOf i).toNat)
  case atStart => exact ⟨0, Nat.zero_le _, rfl, rfl, Below.refl _ _⟩
  case round =>
    obtain ⟨k, hk, rfl, rfl, kk⟩ := hrel
    have kr := below_on kw6 kk
    have b4r := B4_6.below kk B4_6.lt
    have b6r := B6_6.below kk B6_6.lt
    have d0 : wr.cell? ⟨w.heap.size, 0, none⟩ = some (.int .i64 (m : Int)) := b4r.at_ (i := 0) rfl
    have d1 : wr.cell? ⟨w.heap.size, 1, none⟩ = some (.slice A n c) := b4r.at_ (i := 1) rfl
    have d6 : wr.cell? ⟨w.heap.size + 1 + 1, 0, none⟩ = some (.int .i64 key) := b6r.at_ (i := 0) rfl
    by_cases hlt : k < n
    · clear l4_6 c40_6 c41_6 l5_6 c50_6 c51_6 l6_6 c60_6 l7_6 c70_6 l9_6 c90_6 c91_6 l13_6 c130_6 c131_6
      obtain ⟨ad, ⟨Ar, nr, cr, zs⟩, rfl, hbk, ho, hc, hs⟩ := (h.on kr).cell hlt
      dsimp only at hc hs
      have hz0 := rows_at ho
      dsimp only at hz0
      have hnr : (zs.length : Int) = m := HK.out.row k zs hz0
      have hnr2 : nr = m := by have := hs.ilen; omega
      subst hnr2
      have hpk : p k < nr := HPL.out k (by omega)
      have HNX := hide (show ∀ y, zs[p k]? = some y → leastTo p (rows os) (k + 1) = if y < leastTo p (rows os) k then y else leastTo p (rows os) k from fun y hy => leastTo_next hz0 hy)
      have HCPK := hide (fun w => HCP.out w k (by omega))
      obtain ⟨pk, hpe⟩ : ∃ pk, p k = pk := ⟨_, rfl⟩
      rw [hpe] at hpk HNX HCPK
      obtain ⟨L, hL⟩ : ∃ L, leastTo p (rows os) k = L := ⟨_, rfl⟩
      rw [hL] at HNX ⊢
      clear hz0 hnr ho hpe hL
      go_wp2_with fail
      refine (HCPK.out _).mono ?_
      rintro e wq ⟨rfl, hbq⟩
      have kq := below_on kk hbq
      obtain ⟨ad2, y, rfl, hbk2, hy, hcy⟩ := (hs.on hbq).icell hpk
      have HN := hide (HNX.out y hy)
      clear hy
      go_wp2_with fail
      all_goals
        go_roundw
        case rel => exact ⟨k + 1, by omega, by go_num, by rw [HN.out], kq⟩
        case measure => simp [intOf]; omega
    · obtain rfl : n = k := by omega
      obtain ⟨w7, rfl⟩ : ∃ w7 : World, w7 = wr := ⟨_, rfl⟩
      clear b4r b6r d0 d1 d6
      have hb7 := kk
      have kk7 : Below w6.heap.size w6 w7 := below_on (by repeat' (first | assumption | with_reducible exact Below.refl _ _ | with_reducible apply Below.drew | with_reducible apply below_drewN | with_reducible apply below_alloc | with_reducible refine below_set ?_ ?_ _ | (simp only [World.size_alloc, World.heap_drewN]; omega) | (simp; omega))) hb7
      have kw7 : Below w.heap.size w w7 := below_on kw6 kk7
      have zz7 := kk7.size
      have B4_7 := (B4_6).below kk7 (B4_6).lt
      have B5_7 := (B5_6).below kk7 (B5_6).lt
      have B6_7 := (B6_6).below kk7 (B6_6).lt
      have B7_7 := (B7_6).below kk7 (B7_6).lt
      have B9_7 := (B9_6).below kk7 (B9_6).lt
      have B13_7 := (B13_6).below kk7 (B13_6).lt
      have l4_7 : w.heap.size < w7.heap.size := B4_7.lt
      have c40_7 : w7.cell? ⟨w.heap.size, 0, none⟩ = some (.int .i64 (m : Int)) := B4_7.at_ (i := 0) rfl
      have c41_7 : w7.cell? ⟨w.heap.size, 1, none⟩ = some (.slice A n c) := B4_7.at_ (i := 1) rfl
      have l5_7 : w.heap.size + 1 < w7.heap.size := B5_7.lt
      have c50_7 : w7.cell? ⟨w.heap.size + 1, 0, none⟩ = some (.int .i64 W2) := B5_7.at_ (i := 0) rfl
      have c51_7 : w7.cell? ⟨w.heap.size + 1, 1, none⟩ = some (.slice A2 n2 c2) := B5_7.at_ (i := 1) rfl
      have l6_7 : w.heap.size + 1 + 1 < w7.heap.size := B6_7.lt
      have c60_7 : w7.cell? ⟨w.heap.size + 1 + 1, 0, none⟩ = some (.int .i64 key) := B6_7.at_ (i := 0) rfl
      have l7_7 : w.heap.size + 1 + 1 + 1 < w7.heap.size := B7_7.lt
      have c70_7 : w7.cell? ⟨w.heap.size + 1 + 1 + 1, 0, none⟩ = some (.int .i64 x) := B7_7.at_ (i := 0) rfl
      have l9_7 : w1.heap.size < w7.heap.size := B9_7.lt
      have c90_7 : w7.cell? ⟨w1.heap.size, 0, none⟩ = some (.int .i64 0) := B9_7.at_ (i := 0) rfl
      have c91_7 : w7.cell? ⟨w1.heap.size, 1, none⟩ = some (.slice Ax nx cx) := B9_7.at_ (i := 1) rfl
      have l13_7 : w3.heap.size < w7.heap.size := B13_7.lt
      have c130_7 : w7.cell? ⟨w3.heap.size, 0, none⟩ = some (.int .i64 0) := B13_7.at_ (i := 0) rfl
      have c131_7 : w7.cell? ⟨w3.heap.size, 1, none⟩ = some (.slice Ay ny cy) := B13_7.at_ (i := 1) rfl
      have Sx_7 := (Sx_6).on kk7
      have Sy_7 := (Sy_6).on kk7
      clear B4_6 l4_6 c40_6 c41_6 B5_6 l5_6 c50_6 c51_6 B6_6 l6_6 c60_6 B7_6 l7_6 c70_6 B9_6 l9_6 c90_6 c91_6 B13_6 l13_6 c130_6 c131_6 Sx_6 Sy_6 kk7
      have tL : (leastTo p (rows os) n != leastTo p (rows os) n) = false := by simp
      obtain ⟨L, hL⟩ : ∃ L, leastTo p (rows os) n = L := ⟨_, rfl⟩
      rw [hL] at tL ⊢
      clear hL
      go_wp2_with fail
      refine (count_any _ _).mono ?_
      rintro e w8 ⟨rfl, rfl⟩
      go_wp2_with fail
      refine (sameTable_yes (Sx_7.on (by repeat' (first | assumption | with_reducible exact Below.refl _ _ | with_reducible apply Below.drew | with_reducible apply below_drewN | with_reducible apply below_alloc | with_reducible refine below_set ?_ ?_ _ | (simp only [World.size_alloc, World.heap_drewN]; omega) | (simp; omega)))) (Ss.none _) HRX.out).mono ?_
      rintro e w8 ⟨rfl, hb8⟩
      have kk8 : Below w7.heap.size w7 w8 := below_on (by repeat' (first | assumption | with_reducible exact Below.refl _ _ | with_reducible apply Below.drew | with_reducible apply below_drewN | with_reducible apply below_alloc | with_reducible refine below_set ?_ ?_ _ | (simp only [World.size_alloc, World.heap_drewN]; omega) | (simp; omega))) hb8
      have kw8 : Below w.heap.size w w8 := below_on kw7 kk8
      have zz8 := kk8.size
      have B4_8 := (B4_7).below kk8 (B4_7).lt
      have B5_8 := (B5_7).below kk8 (B5_7).lt
      have B6_8 := (B6_7).below kk8 (B6_7).lt
      have B7_8 := (B7_7).below kk8 (B7_7).lt
      have B9_8 := (B9_7).below kk8 (B9_7).lt
      have B13_8 := (B13_7).below kk8 (B13_7).lt
      have l4_8 : w.heap.size < w8.heap.size := B4_8.lt
      have c40_8 : w8.cell? ⟨w.heap.size, 0, none⟩ = some (.int .i64 (m : Int)) := B4_8.at_ (i := 0) rfl
      have c41_8 : w8.cell? ⟨w.heap.size, 1, none⟩ = some (.slice A n c) := B4_8.at_ (i := 1) rfl
      have l5_8 : w.heap.size + 1 < w8.heap.size := B5_8.lt
      have c50_8 : w8.cell? ⟨w.heap.size + 1, 0, none⟩ = some (.int .i64 W2) := B5_8.at_ (i := 0) rfl
      have c51_8 : w8.cell? ⟨w.heap.size + 1, 1, none⟩ = some (.slice A2 n2 c2) := B5_8.at_ (i := 1) rfl
      have l6_8 : w.heap.size + 1 + 1 < w8.heap.size := B6_8.lt
      have c60_8 : w8.cell? ⟨w.heap.size + 1 + 1, 0, none⟩ = some (.int .i64 key) := B6_8.at_ (i := 0) rfl
      have l7_8 : w.heap.size + 1 + 1 + 1 < w8.heap.size := B7_8.lt
      have c70_8 : w8.cell? ⟨w.heap.size + 1 + 1 + 1, 0, none⟩ = some (.int .i64 x) := B7_8.at_ (i := 0) rfl
      have l9_8 : w1.heap.size < w8.heap.size := B9_8.lt
      have c90_8 : w8.cell? ⟨w1.heap.size, 0, none⟩ = some (.int .i64 0) := B9_8.at_ (i := 0) rfl
      have c91_8 : w8.cell? ⟨w1.heap.size, 1, none⟩ = some (.slice Ax nx cx) := B9_8.at_ (i := 1) rfl
      have l13_8 : w3.heap.size < w8.heap.size := B13_8.lt
      have c130_8 : w8.cell? ⟨w3.heap.size, 0, none⟩ = some (.int .i64 0) := B13_8.at_ (i := 0) rfl
      have c131_8 : w8.cell? ⟨w3.heap.size, 1, none⟩ = some (.slice Ay ny cy) := B13_8.at_ (i := 1) rfl
      have Sx_8 := (Sx_7).on kk8
      have Sy_8 := (Sy_7).on kk8
      clear B4_7 l4_7 c40_7 c41_7 B5_7 l5_7 c50_7 c51_7 B6_7 l6_7 c60_7 B7_7 l7_7 c70_7 B9_7 l9_7 c90_7 c91_7 B13_7 l13_7 c130_7 c131_7 Sx_7 Sy_7 kk8
      go_wp2_with fail
      refine (HROWS2.out _ (h2.on (by repeat' (first | assumption | with_reducible exact Below.refl _ _ | with_reducible apply Below.drew | with_reducible apply below_drewN | with_reducible apply below_alloc | with_reducible refine below_set ?_ ?_ _ | (simp only [World.size_alloc, World.heap_drewN]; omega) | (simp; omega))))).mono ?_
      rintro e w9 ⟨rfl, hb9⟩
      have kk9 : Below w8.heap.size w8 w9 := below_on (by repeat' (first | assumption | with_reducible exact Below.refl _ _ | with_reducible apply Below.drew | with_reducible apply below_drewN | with_reducible apply below_alloc | with_reducible refine below_set ?_ ?_ _ | (simp only [World.size_alloc, World.heap_drewN]; omega) | (simp; omega))) hb9
      have kw9 : Below w.heap.size w w9 := below_on kw8 kk9
      have zz9 := kk9.size
      have B4_9 := (B4_8).below kk9 (B4_8).lt
      have B5_9 := (B5_8).below kk9 (B5_8).lt
      have B6_9 := (B6_8).below kk9 (B6_8).lt
      have B7_9 := (B7_8).below kk9 (B7_8).lt
      have B9_9 := (B9_8).below kk9 (B9_8).lt
      have B13_9 := (B13_8).below kk9 (B13_8).lt
      have l4_9 : w.heap.size < w9.heap.size := B4_9.lt
      have c40_9 : w9.cell? ⟨w.heap.size, 0, none⟩ = some (.int .i64 (m : Int)) := B4_9.at_ (i := 0) rfl
      have c41_9 : w9.cell? ⟨w.heap.size, 1, none⟩ = some (.slice A n c) := B4_9.at_ (i := 1) rfl
      have l5_9 : w.heap.size + 1 < w9.heap.size := B5_9.lt
      have c50_9 : w9.cell? ⟨w.heap.size + 1, 0, none⟩ = some (.int .i64 W2) := B5_9.at_ (i := 0) rfl
      have c51_9 : w9.cell? ⟨w.heap.size + 1, 1, none⟩ = some (.slice A2 n2 c2) := B5_9.at_ (i := 1) rfl
      have l6_9 : w.heap.size + 1 + 1 < w9.heap.size := B6_9.lt
      have c60_9 : w9.cell? ⟨w.heap.size + 1 + 1, 0, none⟩ = some (.int .i64 key) := B6_9.at_ (i := 0) rfl
      have l7_9 : w.heap.size + 1 + 1 + 1 < w9.heap.size := B7_9.lt
      have c70_9 : w9.cell? ⟨w.heap.size + 1 + 1 + 1, 0, none⟩ = some (.int .i64 x) := B7_9.at_ (i := 0) rfl
      have l9_9 : w1.heap.size < w9.heap.size := B9_9.lt
      have c90_9 : w9.cell? ⟨w1.heap.size, 0, none⟩ = some (.int .i64 0) := B9_9.at_ (i := 0) rfl
      have c91_9 : w9.cell? ⟨w1.heap.size, 1, none⟩ = some (.slice Ax nx cx) := B9_9.at_ (i := 1) rfl
      have l13_9 : w3.heap.size < w9.heap.size := B13_9.lt
      have c130_9 : w9.cell? ⟨w3.heap.size, 0, none⟩ = some (.int .i64 0) := B13_9.at_ (i := 0) rfl
      have c131_9 : w9.cell? ⟨w3.heap.size, 1, none⟩ = some (.slice Ay ny cy) := B13_9.at_ (i := 1) rfl
      have Sx_9 := (Sx_8).on kk9
      have Sy_9 := (Sy_8).on kk9
      clear B4_8 l4_8 c40_8 c41_8 B5_8 l5_8 c50_8 c51_8 B6_8 l6_8 c60_8 B7_8 l7_8 c70_8 B9_8 l9_8 c90_8 c91_8 B13_8 l13_8 c130_8 c131_8 Sx_8 Sy_8 kk9
      go_wp2_with fail
      refine (sameTable_yes (Sy_9.on (by repeat' (first | assumption | with_reducible exact Below.refl _ _ | with_reducible apply Below.drew | with_reducible apply below_drewN | with_reducible apply below_alloc | with_reducible refine below_set ?_ ?_ _ | (simp only [World.size_alloc, World.heap_drewN]; omega) | (simp; omega)))) (Ss.none _) HRY.out).mono ?_
      rintro e w10 ⟨rfl, hb10⟩
      have kk10 : Below w9.heap.size w9 w10 := below_on (by repeat' (first | assumption | with_reducible exact Below.refl _ _ | with_reducible apply Below.drew | with_reducible apply below_drewN | with_reducible apply below_alloc | with_reducible refine below_set ?_ ?_ _ | (simp only [World.size_alloc, World.heap_drewN]; omega) | (simp; omega))) hb10
      have kw10 : Below w.heap.size w w10 := below_on kw9 kk10
      have zz10 := kk10.size
      have B4_10 := (B4_9).below kk10 (B4_9).lt
      have B5_10 := (B5_9).below kk10 (B5_9).lt
      have B6_10 := (B6_9).below kk10 (B6_9).lt
      have B7_10 := (B7_9).below kk10 (B7_9).lt
      have B9_10 := (B9_9).below kk10 (B9_9).lt
      have B13_10 := (B13_9).below kk10 (B13_9).lt
      have l4_10 : w.heap.size < w10.heap.size := B4_10.lt
      have c40_10 : w10.cell? ⟨w.heap.size, 0, none⟩ = some (.int .i64 (m : Int)) := B4_10.at_ (i := 0) rfl
      have c41_10 : w10.cell? ⟨w.heap.size, 1, none⟩ = some (.slice A n c) := B4_10.at_ (i := 1) rfl
      have l5_10 : w.heap.size + 1 < w10.heap.size := B5_10.lt
      have c50_10 : w10.cell? ⟨w.heap.size + 1, 0, none⟩ = some (.int .i64 W2) := B5_10.at_ (i := 0) rfl
      have c51_10 : w10.cell? ⟨w.heap.size + 1, 1, none⟩ = some (.slice A2 n2 c2) := B5_10.at_ (i := 1) rfl
      have l6_10 : w.heap.size + 1 + 1 < w10.heap.size := B6_10.lt
      have c60_10 : w10.cell? ⟨w.heap.size + 1 + 1, 0, none⟩ = some (.int .i64 key) := B6_10.at_ (i := 0) rfl
      have l7_10 : w.heap.size + 1 + 1 + 1 < w10.heap.size := B7_10.lt
      have c70_10 : w10.cell? ⟨w.heap.size + 1 + 1 + 1, 0, none⟩ = some (.int .i64 x) := B7_10.at_ (i := 0) rfl
      have l9_10 : w1.heap.size < w10.heap.size := B9_10.lt
      have c90_10 : w10.cell? ⟨w1.heap.size, 0, none⟩ = some (.int .i64 0) := B9_10.at_ (i := 0) rfl
      have c91_10 : w10.cell? ⟨w1.heap.size, 1, none⟩ = some (.slice Ax nx cx) := B9_10.at_ (i := 1) rfl
      have l13_10 : w3.heap.size < w10.heap.size := B13_10.lt
      have c130_10 : w10.cell? ⟨w3.heap.size, 0, none⟩ = some (.int .i64 0) := B13_10.at_ (i := 0) rfl
      have c131_10 : w10.cell? ⟨w3.heap.size, 1, none⟩ = some (.slice Ay ny cy) := B13_10.at_ (i := 1) rfl
      have Sx_10 := (Sx_9).on kk10
      have Sy_10 := (Sy_9).on kk10
      clear B4_9 l4_9 c40_9 c41_9 B5_9 l5_9 c50_9 c51_9 B6_9 l6_9 c60_9 B7_9 l7_9 c70_9 B9_9 l9_9 c90_9 c91_9 B13_9 l13_9 c130_9 c131_9 Sx_9 Sy_9 kk10
      go_wp2_with fail
      go_ret
      exact ⟨rfl, kw10⟩
set_option maxRecDepth 100000 in
set_option maxHeartbeats 6400000 in
theorem law_table_ok1 {A A2 : Option Addr} {n c n2 c2 m : Nat} {W2 key x : Int} {os os2 : List Row} {w : World} (h : Ss w A n c os) (h2 : Ss w A2 n2 c2 os2) (he : tabErr (m : Int) n (rows os) = 0) (x0 : 0 ≤ x) (x1 : x ≤ 1000000000000) {E3 : Int} (he3 : tabErr W2 n2 (rows os2) = E3) (h3 : ¬ E3 = 0) :
    Calls Try.prog 8 #[.agg #[.int .i64 (m : Int), .slice A n c], .agg #[.int .i64 W2, .slice A2 n2 c2], .int .i64 key, .int .i64 x] w fun e w' => e = .returned (.bool true) ∧ Below w.heap.size w w' := by
  have hm1 := h.s.len_max
  have hm2 := h2.s.len_max
  obtain ⟨w9, hw9⟩ : ∃ w9 : World, w = w9 := ⟨_, rfl⟩
  have HE := hide he
  have HK := hide (tabOk_rows h he)
  have m1 : 1 ≤ m := by have := HK.out.w1; omega
  have m2 : m ≤ 32 := by have := HK.out.w2; omega
  have n4 := HK.out.n2
  have HROWS := hide (fun (w : World) (h : Ss w A n c os) => rrows_is (W := (m : Int)) h he)
  have HASK := hide (fun (w : World) (h : Ss w A n c os) => task_ok (key := key) h he)
  obtain ⟨p, hp⟩ : ∃ p, plcI m key = p := ⟨_, rfl⟩
  have HPL := hide (show ∀ i, i < 1000 → p i < m from fun i hi => by rw [← hp]; exact plcI_lt m1 key i)
  have HCP := hide (show ∀ (w : World) (i : Nat), i < 1000 → Calls Try.prog 45 #[.agg #[.int .i64 (m : Int), .slice A n c], .int .i64 (i : Int), .int .i64 key] w fun e w' => e = .returned (.int .i64 (p i)) ∧ Below w.heap.size w w' from fun w i hi => by rw [← hp]; exact rplace_any m1 m2 hi)
  rw [hp] at HASK
  have HROWS2 := hide (fun (w : World) (h : Ss w A2 n2 c2 os2) => rrows_is (W := W2) h he3)
  have HJ := hide (show tjErr (m : Int) n (rows os) W2 n2 (rows os2) = E3 by unfold tjErr; rw [he, if_neg (by simp), he3, if_pos h3])
  have HJ0 := hide h3
  have t3 : (E3 != 0) = true := by simpa using h3
  have t4 : (E3 == 0) = false := by simpa using h3
  have t5 : (E3 == E3) = true := by simp
  clear he3 h3
  have tx := inR_yes (And.intro x0 x1)
  have HAT := hide (show ∀ i k, 0 ≤ atPlace p x i k ∧ atPlace p x i k ≤ 1000000000000 from fun i k => by unfold atPlace; split <;> omega)
  have HFN1 := hide (fun (w : World) (h0 : w.cell? ⟨w9.heap.size, 0, none⟩ = some (.int .i64 (m : Int))) (h1 : w.cell? ⟨w9.heap.size, 1, none⟩ = some (.slice A n c)) (h6 : w.cell? ⟨w9.heap.size + 1 + 1, 0, none⟩ = some (.int .i64 key)) (h7 : w.cell? ⟨w9.heap.size + 1 + 1 + 1, 0, none⟩ = some (.int .i64 x)) (l7 : w9.heap.size + 1 + 1 + 1 < w.heap.size) (i k : Nat) (hi : i < n) (hk : k < m) => tfn1 m1 m2 h0 h1 h6 h7 l7 (show i < 4 by omega) hk)
  have HPUT := hide (fun (w : World) (h : Ss w A n c os) => tput_ok (key := key) (x := x) h he x0 x1 rfl)
  rw [hp] at HPUT HFN1
  obtain ⟨bx, hbx⟩ : ∃ bx, okTab (atPlace p x) (rows os) m n = bx := ⟨_, rfl⟩
  rw [hbx] at HPUT
  have HBX := hide hbx
  clear x0 x1 he hp hbx m1 m2
  subst hw9
  have b4 := (((Blk.new w 65 #[.int .i64 (m : Int), .slice A n c]).alloc (.cells #[.int .i64 W2, .slice A2 n2 c2] 65)).alloc (.cells #[.int .i64 key] 3)).alloc (.cells #[.int .i64 x] 3)
  have b5 := ((Blk.new (w.alloc (.cells #[.int .i64 (m : Int), .slice A n c] 65)) 65 #[.int .i64 W2, .slice A2 n2 c2]).alloc (.cells #[.int .i64 key] 3)).alloc (.cells #[.int .i64 x] 3)
  have b6 := (Blk.new ((w.alloc (.cells #[.int .i64 (m : Int), .slice A n c] 65)).alloc (.cells #[.int .i64 W2, .slice A2 n2 c2] 65)) 3 #[.int .i64 key]).alloc (.cells #[.int .i64 x] 3)
  have b7 := Blk.new (((w.alloc (.cells #[.int .i64 (m : Int), .slice A n c] 65)).alloc (.cells #[.int .i64 W2, .slice A2 n2 c2] 65)).alloc (.cells #[.int .i64 key] 3)) 3 #[.int .i64 x]
  simp only [World.size_alloc] at b5 b6 b7
  have hkw : Below w.heap.size w ((((w.alloc (.cells #[.int .i64 (m : Int), .slice A n c] 65)).alloc (.cells #[.int .i64 W2, .slice A2 n2 c2] 65)).alloc (.cells #[.int .i64 key] 3)).alloc (.cells #[.int .i64 x] 3)) := by repeat' (first | assumption | with_reducible exact Below.refl _ _ | with_reducible apply Below.drew | with_reducible apply below_drewN | with_reducible apply below_alloc | with_reducible refine below_set ?_ ?_ _ | (simp only [World.size_alloc, World.heap_drewN]; omega) | (simp; omega))
  have H4 := hide b4
  have H5 := hide b5
  have H6 := hide b6
  have H7 := hide b7
  have HKW := hide hkw
  clear b4 b5 b6 b7 hkw
  go_enter Try.func8, Try.ntmps8
  go_wp2_with fail
  have kw := HKW.out
  refine (HPUT.out _ (h.on HKW.out)).mono ?_
  rintro e w1 ⟨Ax, nx, cx, ox, rfl, sx, hrx, hb1⟩
  have kk1 := hb1
  have kw1 : Below w.heap.size w w1 := below_on kw kk1
  have zz1 := kk1.size
  have B4_1 := (H4.out).below kk1 (H4.out).lt
  have B5_1 := (H5.out).below kk1 (H5.out).lt
  have B6_1 := (H6.out).below kk1 (H6.out).lt
  have B7_1 := (H7.out).below kk1 (H7.out).lt
  have l4_1 : w.heap.size < w1.heap.size := B4_1.lt
  have c40_1 : w1.cell? ⟨w.heap.size, 0, none⟩ = some (.int .i64 (m : Int)) := B4_1.at_ (i := 0) rfl
  have c41_1 : w1.cell? ⟨w.heap.size, 1, none⟩ = some (.slice A n c) := B4_1.at_ (i := 1) rfl
  have l5_1 : w.heap.size + 1 < w1.heap.size := B5_1.lt
  have c50_1 : w1.cell? ⟨w.heap.size + 1, 0, none⟩ = some (.int .i64 W2) := B5_1.at_ (i := 0) rfl
  have c51_1 : w1.cell? ⟨w.heap.size + 1, 1, none⟩ = some (.slice A2 n2 c2) := B5_1.at_ (i := 1) rfl
  have l6_1 : w.heap.size + 1 + 1 < w1.heap.size := B6_1.lt
  have c60_1 : w1.cell? ⟨w.heap.size + 1 + 1, 0, none⟩ = some (.int .i64 key) := B6_1.at_ (i := 0) rfl
  have l7_1 : w.heap.size + 1 + 1 + 1 < w1.heap.size := B7_1.lt
  have c70_1 : w1.cell? ⟨w.heap.size + 1 + 1 + 1, 0, none⟩ = some (.int .i64 x) := B7_1.at_ (i := 0) rfl
  have HRX := hide hrx
  clear hrx
  go_wp2_with fail
  refine (HASK.out _ (h.on (by repeat' (first | assumption | with_reducible exact Below.refl _ _ | with_reducible apply Below.drew | with_reducible apply below_drewN | with_reducible apply below_alloc | with_reducible refine below_set ?_ ?_ _ | (simp only [World.size_alloc, World.heap_drewN]; omega) | (simp; omega))))).mono ?_
  rintro e w2 ⟨rfl, hb2⟩
  have kk2 : Below w1.heap.size w1 w2 := below_on (by repeat' (first | assumption | with_reducible exact Below.refl _ _ | with_reducible apply Below.drew | with_reducible apply below_drewN | with_reducible apply below_alloc | with_reducible refine below_set ?_ ?_ _ | (simp only [World.size_alloc, World.heap_drewN]; omega) | (simp; omega))) hb2
  have kw2 : Below w.heap.size w w2 := below_on kw1 kk2
  have zz2 := kk2.size
  have B4_2 := (B4_1).below kk2 (B4_1).lt
  have B5_2 := (B5_1).below kk2 (B5_1).lt
  have B6_2 := (B6_1).below kk2 (B6_1).lt
  have B7_2 := (B7_1).below kk2 (B7_1).lt
  have B9_2 := (Blk.new w1 65 #[.int .i64 (sumW bx m), .slice Ax nx cx]).below hb2 (Blk.new w1 65 #[.int .i64 (sumW bx m), .slice Ax nx cx]).lt
  have l4_2 : w.heap.size < w2.heap.size := B4_2.lt
  have c40_2 : w2.cell? ⟨w.heap.size, 0, none⟩ = some (.int .i64 (m : Int)) := B4_2.at_ (i := 0) rfl
  have c41_2 : w2.cell? ⟨w.heap.size, 1, none⟩ = some (.slice A n c) := B4_2.at_ (i := 1) rfl
  have l5_2 : w.heap.size + 1 < w2.heap.size := B5_2.lt
  have c50_2 : w2.cell? ⟨w.heap.size + 1, 0, none⟩ = some (.int .i64 W2) := B5_2.at_ (i := 0) rfl
  have c51_2 : w2.cell? ⟨w.heap.size + 1, 1, none⟩ = some (.slice A2 n2 c2) := B5_2.at_ (i := 1) rfl
  have l6_2 : w.heap.size + 1 + 1 < w2.heap.size := B6_2.lt
  have c60_2 : w2.cell? ⟨w.heap.size + 1 + 1, 0, none⟩ = some (.int .i64 key) := B6_2.at_ (i := 0) rfl
  have l7_2 : w.heap.size + 1 + 1 + 1 < w2.heap.size := B7_2.lt
  have c70_2 : w2.cell? ⟨w.heap.size + 1 + 1 + 1, 0, none⟩ = some (.int .i64 x) := B7_2.at_ (i := 0) rfl
  have l9_2 : w1.heap.size < w2.heap.size := B9_2.lt
  have c90_2 : w2.cell? ⟨w1.heap.size, 0, none⟩ = some (.int .i64 (sumW bx m)) := B9_2.at_ (i := 0) rfl
  have c91_2 : w2.cell? ⟨w1.heap.size, 1, none⟩ = some (.slice Ax nx cx) := B9_2.at_ (i := 1) rfl
  have Sx_2 := (sx).on kk2
  clear B4_1 l4_1 c40_1 c41_1 B5_1 l5_1 c50_1 c51_1 B6_1 l6_1 c60_1 B7_1 l7_1 c70_1 kk2
  go_wp2_with fail
  refine (tjoin_bad (h.on (by repeat' (first | assumption | with_reducible exact Below.refl _ _ | with_reducible apply Below.drew | with_reducible apply below_drewN | with_reducible apply below_alloc | with_reducible refine below_set ?_ ?_ _ | (simp only [World.size_alloc, World.heap_drewN]; omega) | (simp; omega)))) (h2.on (by repeat' (first | assumption | with_reducible exact Below.refl _ _ | with_reducible apply Below.drew | with_reducible apply below_drewN | with_reducible apply below_alloc | with_reducible refine below_set ?_ ?_ _ | (simp only [World.size_alloc, World.heap_drewN]; omega) | (simp; omega)))) HJ.out HJ0.out).mono ?_
  rintro e w3 ⟨Ay, ny, cy, oy, rfl, sy, hry, hb3⟩
  have kk3 : Below w2.heap.size w2 w3 := below_on (by repeat' (first | assumption | with_reducible exact Below.refl _ _ | with_reducible apply Below.drew | with_reducible apply below_drewN | with_reducible apply below_alloc | with_reducible refine below_set ?_ ?_ _ | (simp only [World.size_alloc, World.heap_drewN]; omega) | (simp; omega))) hb3
  have kw3 : Below w.heap.size w w3 := below_on kw2 kk3
  have zz3 := kk3.size
  have B4_3 := (B4_2).below kk3 (B4_2).lt
  have B5_3 := (B5_2).below kk3 (B5_2).lt
  have B6_3 := (B6_2).below kk3 (B6_2).lt
  have B7_3 := (B7_2).below kk3 (B7_2).lt
  have B9_3 := (B9_2).below kk3 (B9_2).lt
  have l4_3 : w.heap.size < w3.heap.size := B4_3.lt
  have c40_3 : w3.cell? ⟨w.heap.size, 0, none⟩ = some (.int .i64 (m : Int)) := B4_3.at_ (i := 0) rfl
  have c41_3 : w3.cell? ⟨w.heap.size, 1, none⟩ = some (.slice A n c) := B4_3.at_ (i := 1) rfl
  have l5_3 : w.heap.size + 1 < w3.heap.size := B5_3.lt
  have c50_3 : w3.cell? ⟨w.heap.size + 1, 0, none⟩ = some (.int .i64 W2) := B5_3.at_ (i := 0) rfl
  have c51_3 : w3.cell? ⟨w.heap.size + 1, 1, none⟩ = some (.slice A2 n2 c2) := B5_3.at_ (i := 1) rfl
  have l6_3 : w.heap.size + 1 + 1 < w3.heap.size := B6_3.lt
  have c60_3 : w3.cell? ⟨w.heap.size + 1 + 1, 0, none⟩ = some (.int .i64 key) := B6_3.at_ (i := 0) rfl
  have l7_3 : w.heap.size + 1 + 1 + 1 < w3.heap.size := B7_3.lt
  have c70_3 : w3.cell? ⟨w.heap.size + 1 + 1 + 1, 0, none⟩ = some (.int .i64 x) := B7_3.at_ (i := 0) rfl
  have l9_3 : w1.heap.size < w3.heap.size := B9_3.lt
  have c90_3 : w3.cell? ⟨w1.heap.size, 0, none⟩ = some (.int .i64 (sumW bx m)) := B9_3.at_ (i := 0) rfl
  have c91_3 : w3.cell? ⟨w1.heap.size, 1, none⟩ = some (.slice Ax nx cx) := B9_3.at_ (i := 1) rfl
  have Sx_3 := (Sx_2).on kk3
  clear B4_2 l4_2 c40_2 c41_2 B5_2 l5_2 c50_2 c51_2 B6_2 l6_2 c60_2 B7_2 l7_2 c70_2 B9_2 l9_2 c90_2 c91_2 Sx_2 kk3
  have HRY := hide hry
  clear hry
  go_wp2_with fail
  refine (HROWS.out _ (h.on (by repeat' (first | assumption | with_reducible exact Below.refl _ _ | with_reducible apply Below.drew | with_reducible apply below_drewN | with_reducible apply below_alloc | with_reducible refine below_set ?_ ?_ _ | (simp only [World.size_alloc, World.heap_drewN]; omega) | (simp; omega))))).mono ?_
  rintro e w4 ⟨rfl, hb4⟩
  have kk4 : Below w3.heap.size w3 w4 := below_on (by repeat' (first | assumption | with_reducible exact Below.refl _ _ | with_reducible apply Below.drew | with_reducible apply below_drewN | with_reducible apply below_alloc | with_reducible refine below_set ?_ ?_ _ | (simp only [World.size_alloc, World.heap_drewN]; omega) | (simp; omega))) hb4
  have kw4 : Below w.heap.size w w4 := below_on kw3 kk4
  have zz4 := kk4.size
  have B4_4 := (B4_3).below kk4 (B4_3).lt
  have B5_4 := (B5_3).below kk4 (B5_3).lt
  have B6_4 := (B6_3).below kk4 (B6_3).lt
  have B7_4 := (B7_3).below kk4 (B7_3).lt
  have B9_4 := (B9_3).below kk4 (B9_3).lt
  have B13_4 := (Blk.new w3 65 #[.int .i64 0, .slice Ay ny cy]).below hb4 (Blk.new w3 65 #[.int .i64 0, .slice Ay ny cy]).lt
  have l4_4 : w.heap.size < w4.heap.size := B4_4.lt
  have c40_4 : w4.cell? ⟨w.heap.size, 0, none⟩ = some (.int .i64 (m : Int)) := B4_4.at_ (i := 0) rfl
  have c41_4 : w4.cell? ⟨w.heap.size, 1, none⟩ = some (.slice A n c) := B4_4.at_ (i := 1) rfl
  have l5_4 : w.heap.size + 1 < w4.heap.size := B5_4.lt
  have c50_4 : w4.cell? ⟨w.heap.size + 1, 0, none⟩ = some (.int .i64 W2) := B5_4.at_ (i := 0) rfl
  have c51_4 : w4.cell? ⟨w.heap.size + 1, 1, none⟩ = some (.slice A2 n2 c2) := B5_4.at_ (i := 1) rfl
  have l6_4 : w.heap.size + 1 + 1 < w4.heap.size := B6_4.lt
  have c60_4 : w4.cell? ⟨w.heap.size + 1 + 1, 0, none⟩ = some (.int .i64 key) := B6_4.at_ (i := 0) rfl
  have l7_4 : w.heap.size + 1 + 1 + 1 < w4.heap.size := B7_4.lt
  have c70_4 : w4.cell? ⟨w.heap.size + 1 + 1 + 1, 0, none⟩ = some (.int .i64 x) := B7_4.at_ (i := 0) rfl
  have l9_4 : w1.heap.size < w4.heap.size := B9_4.lt
  have c90_4 : w4.cell? ⟨w1.heap.size, 0, none⟩ = some (.int .i64 (sumW bx m)) := B9_4.at_ (i := 0) rfl
  have c91_4 : w4.cell? ⟨w1.heap.size, 1, none⟩ = some (.slice Ax nx cx) := B9_4.at_ (i := 1) rfl
  have l13_4 : w3.heap.size < w4.heap.size := B13_4.lt
  have c130_4 : w4.cell? ⟨w3.heap.size, 0, none⟩ = some (.int .i64 0) := B13_4.at_ (i := 0) rfl
  have c131_4 : w4.cell? ⟨w3.heap.size, 1, none⟩ = some (.slice Ay ny cy) := B13_4.at_ (i := 1) rfl
  have Sx_4 := (Sx_3).on kk4
  have Sy_4 := (sy).on kk4
  clear B4_3 l4_3 c40_3 c41_3 B5_3 l5_3 c50_3 c51_3 B6_3 l6_3 c60_3 B7_3 l7_3 c70_3 B9_3 l9_3 c90_3 c91_3 Sx_3 kk4
  go_wp2_with fail
  refine (tcheck_is (h.on (by repeat' (first | assumption | with_reducible exact Below.refl _ _ | with_reducible apply Below.drew | with_reducible apply below_drewN | with_reducible apply below_alloc | with_reducible refine below_set ?_ ?_ _ | (simp only [World.size_alloc, World.heap_drewN]; omega) | (simp; omega)))) HE.out).mono ?_
  rintro e w5 ⟨rfl, hb5⟩
  have kk5 : Below w4.heap.size w4 w5 := below_on (by repeat' (first | assumption | with_reducible exact Below.refl _ _ | with_reducible apply Below.drew | with_reducible apply below_drewN | with_reducible apply below_alloc | with_reducible refine below_set ?_ ?_ _ | (simp only [World.size_alloc, World.heap_drewN]; omega) | (simp; omega))) hb5
  have kw5 : Below w.heap.size w w5 := below_on kw4 kk5
  have zz5 := kk5.size
  have B4_5 := (B4_4).below kk5 (B4_4).lt
  have B5_5 := (B5_4).below kk5 (B5_4).lt
  have B6_5 := (B6_4).below kk5 (B6_4).lt
  have B7_5 := (B7_4).below kk5 (B7_4).lt
  have B9_5 := (B9_4).below kk5 (B9_4).lt
  have B13_5 := (B13_4).below kk5 (B13_4).lt
  have l4_5 : w.heap.size < w5.heap.size := B4_5.lt
  have c40_5 : w5.cell? ⟨w.heap.size, 0, none⟩ = some (.int .i64 (m : Int)) := B4_5.at_ (i := 0) rfl
  have c41_5 : w5.cell? ⟨w.heap.size, 1, none⟩ = some (.slice A n c) := B4_5.at_ (i := 1) rfl
  have l5_5 : w.heap.size + 1 < w5.heap.size := B5_5.lt
  have c50_5 : w5.cell? ⟨w.heap.size + 1, 0, none⟩ = some (.int .i64 W2) := B5_5.at_ (i := 0) rfl
  have c51_5 : w5.cell? ⟨w.heap.size + 1, 1, none⟩ = some (.slice A2 n2 c2) := B5_5.at_ (i := 1) rfl
  have l6_5 : w.heap.size + 1 + 1 < w5.heap.size := B6_5.lt
  have c60_5 : w5.cell? ⟨w.heap.size + 1 + 1, 0, none⟩ = some (.int .i64 key) := B6_5.at_ (i := 0) rfl
  have l7_5 : w.heap.size + 1 + 1 + 1 < w5.heap.size := B7_5.lt
  have c70_5 : w5.cell? ⟨w.heap.size + 1 + 1 + 1, 0, none⟩ = some (.int .i64 x) := B7_5.at_ (i := 0) rfl
  have l9_5 : w1.heap.size < w5.heap.size := B9_5.lt
  have c90_5 : w5.cell? ⟨w1.heap.size, 0, none⟩ = some (.int .i64 (sumW bx m)) := B9_5.at_ (i := 0) rfl
  have c91_5 : w5.cell? ⟨w1.heap.size, 1, none⟩ = some (.slice Ax nx cx) := B9_5.at_ (i := 1) rfl
  have l13_5 : w3.heap.size < w5.heap.size := B13_5.lt
  have c130_5 : w5.cell? ⟨w3.heap.size, 0, none⟩ = some (.int .i64 0) := B13_5.at_ (i := 0) rfl
  have c131_5 : w5.cell? ⟨w3.heap.size, 1, none⟩ = some (.slice Ay ny cy) := B13_5.at_ (i := 1) rfl
  have Sx_5 := (Sx_4).on kk5
  have Sy_5 := (Sy_4).on kk5
  clear B4_4 l4_4 c40_4 c41_4 B5_4 l5_4 c50_4 c51_4 B6_4 l6_4 c60_4 B7_4 l7_4 c70_4 B9_4 l9_4 c90_4 c91_4 B13_4 l13_4 c130_4 c131_4 Sx_4 Sy_4 kk5
  go_wp2_with fail
  refine (tcheck_is (Ss.none _) zero_tab).mono ?_
  rintro e w6 ⟨rfl, hb6⟩
  have kk6 : Below w5.heap.size w5 w6 := below_on (by repeat' (first | assumption | with_reducible exact Below.refl _ _ | with_reducible apply Below.drew | with_reducible apply below_drewN | with_reducible apply below_alloc | with_reducible refine below_set ?_ ?_ _ | (simp only [World.size_alloc, World.heap_drewN]; omega) | (simp; omega))) hb6
  have kw6 : Below w.heap.size w w6 := below_on kw5 kk6
  have zz6 := kk6.size
  have B4_6 := (B4_5).below kk6 (B4_5).lt
  have B5_6 := (B5_5).below kk6 (B5_5).lt
  have B6_6 := (B6_5).below kk6 (B6_5).lt
  have B7_6 := (B7_5).below kk6 (B7_5).lt
  have B9_6 := (B9_5).below kk6 (B9_5).lt
  have B13_6 := (B13_5).below kk6 (B13_5).lt
  have l4_6 : w.heap.size < w6.heap.size := B4_6.lt
  have c40_6 : w6.cell? ⟨w.heap.size, 0, none⟩ = some (.int .i64 (m : Int)) := B4_6.at_ (i := 0) rfl
  have c41_6 : w6.cell? ⟨w.heap.size, 1, none⟩ = some (.slice A n c) := B4_6.at_ (i := 1) rfl
  have l5_6 : w.heap.size + 1 < w6.heap.size := B5_6.lt
  have c50_6 : w6.cell? ⟨w.heap.size + 1, 0, none⟩ = some (.int .i64 W2) := B5_6.at_ (i := 0) rfl
  have c51_6 : w6.cell? ⟨w.heap.size + 1, 1, none⟩ = some (.slice A2 n2 c2) := B5_6.at_ (i := 1) rfl
  have l6_6 : w.heap.size + 1 + 1 < w6.heap.size := B6_6.lt
  have c60_6 : w6.cell? ⟨w.heap.size + 1 + 1, 0, none⟩ = some (.int .i64 key) := B6_6.at_ (i := 0) rfl
  have l7_6 : w.heap.size + 1 + 1 + 1 < w6.heap.size := B7_6.lt
  have c70_6 : w6.cell? ⟨w.heap.size + 1 + 1 + 1, 0, none⟩ = some (.int .i64 x) := B7_6.at_ (i := 0) rfl
  have l9_6 : w1.heap.size < w6.heap.size := B9_6.lt
  have c90_6 : w6.cell? ⟨w1.heap.size, 0, none⟩ = some (.int .i64 (sumW bx m)) := B9_6.at_ (i := 0) rfl
  have c91_6 : w6.cell? ⟨w1.heap.size, 1, none⟩ = some (.slice Ax nx cx) := B9_6.at_ (i := 1) rfl
  have l13_6 : w3.heap.size < w6.heap.size := B13_6.lt
  have c130_6 : w6.cell? ⟨w3.heap.size, 0, none⟩ = some (.int .i64 0) := B13_6.at_ (i := 0) rfl
  have c131_6 : w6.cell? ⟨w3.heap.size, 1, none⟩ = some (.slice Ay ny cy) := B13_6.at_ (i := 1) rfl
  have Sx_6 := (Sx_5).on kk6
  have Sy_6 := (Sy_5).on kk6
  clear B4_5 l4_5 c40_5 c41_5 B5_5 l5_5 c50_5 c51_5 B6_5 l6_5 c60_5 B7_5 l7_5 c70_5 B9_5 l9_5 c90_5 c91_5 B13_5 l13_5 c130_5 c131_5 Sx_5 Sy_5 kk6
  go_wp2_with fail
  have K6 := hide kw6
  go_loopw [16, 85] (fun v i wr => ∃ k : Nat, k ≤ n ∧ i = .int .i64 k ∧ v = .int .i64 (leastTo p (rows os) k) ∧ Below w6.heap.size w6 wr) (fun _ i _ => n - (intOf i).toNat)
  case atStart => exact ⟨0, Nat.zero_le _, rfl, rfl, Below.refl _ _⟩
  case round =>
    obtain ⟨k, hk, rfl, rfl, kk⟩ := hrel
    have kr := below_on kw6 kk
    have b4r := B4_6.below kk B4_6.lt
    have b6r := B6_6.below kk B6_6.lt
    have d0 : wr.cell? ⟨w.heap.size, 0, none⟩ = some (.int .i64 (m : Int)) := b4r.at_ (i := 0) rfl
    have d1 : wr.cell? ⟨w.heap.size, 1, none⟩ = some (.slice A n c) := b4r.at_ (i := 1) rfl
    have d6 : wr.cell? ⟨w.heap.size + 1 + 1, 0, none⟩ = some (.int .i64 key) := b6r.at_ (i := 0) rfl
    by_cases hlt : k < n
    · clear l4_6 c40_6 c41_6 l5_6 c50_6 c51_6 l6_6 c60_6 l7_6 c70_6 l9_6 c90_6 c91_6 l13_6 c130_6 c131_6
      obtain ⟨ad, ⟨Ar, nr, cr, zs⟩, rfl, hbk, ho, hc, hs⟩ := (h.on kr).cell hlt
      dsimp only at hc hs
      have hz0 := rows_at ho
      dsimp only at hz0
      have hnr : (zs.length : Int) = m := HK.out.row k zs hz0
      have hnr2 : nr = m := by have := hs.ilen; omega
      subst hnr2
      have hpk : p k < nr := HPL.out k (by omega)
      have HNX := hide (show ∀ y, zs[p k]? = some y → leastTo p (rows os) (k + 1) = if y < leastTo p (rows os) k then y else leastTo p (rows os) k from fun y hy => leastTo_next hz0 hy)
      have HCPK := hide (fun w => HCP.out w k (by omega))
      obtain ⟨pk, hpe⟩ : ∃ pk, p k = pk := ⟨_, rfl⟩
      rw [hpe] at hpk HNX HCPK
      obtain ⟨L, hL⟩ : ∃ L, leastTo p (rows os) k = L := ⟨_, rfl⟩
      rw [hL] at HNX ⊢
      clear hz0 hnr ho hpe hL
      go_wp2_with fail
      refine (HCPK.out _).mono ?_
      rintro e wq ⟨rfl, hbq⟩
      have kq := below_on kk hbq
      obtain ⟨ad2, y, rfl, hbk2, hy, hcy⟩ := (hs.on hbq).icell hpk
      have HN := hide (HNX.out y hy)
      clear hy
      go_wp2_with fail
      all_goals
        go_roundw
        case rel => exact ⟨k + 1, by omega, by go_num, by rw [HN.out], kq⟩
        case measure => simp [intOf]; omega
    · obtain rfl : n = k := by omega
      obtain ⟨w7, rfl⟩ : ∃ w7 : World, w7 = wr := ⟨_, rfl⟩
      clear b4r b6r d0 d1 d6
      have hb7 := kk
      have kk7 : Below w6.heap.size w6 w7 := below_on (by repeat' (first | assumption | with_reducible exact Below.refl _ _ | with_reducible apply Below.drew | with_reducible apply below_drewN | with_reducible apply below_alloc | with_reducible refine below_set ?_ ?_ _ | (simp only [World.size_alloc, World.heap_drewN]; omega) | (simp; omega))) hb7
      have kw7 : Below w.heap.size w w7 := below_on kw6 kk7
      have zz7 := kk7.size
      have B4_7 := (B4_6).below kk7 (B4_6).lt
      have B5_7 := (B5_6).below kk7 (B5_6).lt
      have B6_7 := (B6_6).below kk7 (B6_6).lt
      have B7_7 := (B7_6).below kk7 (B7_6).lt
      have B9_7 := (B9_6).below kk7 (B9_6).lt
      have B13_7 := (B13_6).below kk7 (B13_6).lt
      have l4_7 : w.heap.size < w7.heap.size := B4_7.lt
      have c40_7 : w7.cell? ⟨w.heap.size, 0, none⟩ = some (.int .i64 (m : Int)) := B4_7.at_ (i := 0) rfl
      have c41_7 : w7.cell? ⟨w.heap.size, 1, none⟩ = some (.slice A n c) := B4_7.at_ (i := 1) rfl
      have l5_7 : w.heap.size + 1 < w7.heap.size := B5_7.lt
      have c50_7 : w7.cell? ⟨w.heap.size + 1, 0, none⟩ = some (.int .i64 W2) := B5_7.at_ (i := 0) rfl
      have c51_7 : w7.cell? ⟨w.heap.size + 1, 1, none⟩ = some (.slice A2 n2 c2) := B5_7.at_ (i := 1) rfl
      have l6_7 : w.heap.size + 1 + 1 < w7.heap.size := B6_7.lt
      have c60_7 : w7.cell? ⟨w.heap.size + 1 + 1, 0, none⟩ = some (.int .i64 key) := B6_7.at_ (i := 0) rfl
      have l7_7 : w.heap.size + 1 + 1 + 1 < w7.heap.size := B7_7.lt
      have c70_7 : w7.cell? ⟨w.heap.size + 1 + 1 + 1, 0, none⟩ = some (.int .i64 x) := B7_7.at_ (i := 0) rfl
      have l9_7 : w1.heap.size < w7.heap.size := B9_7.lt
      have c90_7 : w7.cell? ⟨w1.heap.size, 0, none⟩ = some (.int .i64 (sumW bx m)) := B9_7.at_ (i := 0) rfl
      have c91_7 : w7.cell? ⟨w1.heap.size, 1, none⟩ = some (.slice Ax nx cx) := B9_7.at_ (i := 1) rfl
      have l13_7 : w3.heap.size < w7.heap.size := B13_7.lt
      have c130_7 : w7.cell? ⟨w3.heap.size, 0, none⟩ = some (.int .i64 0) := B13_7.at_ (i := 0) rfl
      have c131_7 : w7.cell? ⟨w3.heap.size, 1, none⟩ = some (.slice Ay ny cy) := B13_7.at_ (i := 1) rfl
      have Sx_7 := (Sx_6).on kk7
      have Sy_7 := (Sy_6).on kk7
      clear B4_6 l4_6 c40_6 c41_6 B5_6 l5_6 c50_6 c51_6 B6_6 l6_6 c60_6 B7_6 l7_6 c70_6 B9_6 l9_6 c90_6 c91_6 B13_6 l13_6 c130_6 c131_6 Sx_6 Sy_6 kk7
      have tL : (leastTo p (rows os) n != leastTo p (rows os) n) = false := by simp
      obtain ⟨L, hL⟩ : ∃ L, leastTo p (rows os) n = L := ⟨_, rfl⟩
      rw [hL] at tL ⊢
      clear hL
      go_wp2_with fail
      refine (count_any _ _).mono ?_
      rintro e w8 ⟨rfl, rfl⟩
      go_wp2_with fail
      refine (tables_cap3 (h.on (by repeat' (first | assumption | with_reducible exact Below.refl _ _ | with_reducible apply Below.drew | with_reducible apply below_drewN | with_reducible apply below_alloc | with_reducible refine below_set ?_ ?_ _ | (simp only [World.size_alloc, World.heap_drewN]; omega) | (simp; omega)))) HE.out _ _ _ _ (atPlace p x) HAT.out (enters_of Try.func48 (by kernel_rfl) rfl) (fun i k hi hk W hW => HFN1.out W ((hW.cell (p := ⟨w.heap.size, 0, none⟩) l4_7).trans c40_7) ((hW.cell (p := ⟨w.heap.size, 1, none⟩) l4_7).trans c41_7) ((hW.cell (p := ⟨w.heap.size + 1 + 1, 0, none⟩) l6_7).trans c60_7) ((hW.cell (p := ⟨w.heap.size + 1 + 1 + 1, 0, none⟩) l7_7).trans c70_7) (Nat.lt_of_lt_of_le l7_7 hW.size) i k hi hk) HBX.out).mono ?_
      rintro e w8 ⟨Ap, np, cp, op, rfl, sp, hrp, hb8⟩
      have kk8 : Below w7.heap.size w7 w8 := below_on (by repeat' (first | assumption | with_reducible exact Below.refl _ _ | with_reducible apply Below.drew | with_reducible apply below_drewN | with_reducible apply below_alloc | with_reducible refine below_set ?_ ?_ _ | (simp only [World.size_alloc, World.heap_drewN]; omega) | (simp; omega))) hb8
      have kw8 : Below w.heap.size w w8 := below_on kw7 kk8
      have zz8 := kk8.size
      have B4_8 := (B4_7).below kk8 (B4_7).lt
      have B5_8 := (B5_7).below kk8 (B5_7).lt
      have B6_8 := (B6_7).below kk8 (B6_7).lt
      have B7_8 := (B7_7).below kk8 (B7_7).lt
      have B9_8 := (B9_7).below kk8 (B9_7).lt
      have B13_8 := (B13_7).below kk8 (B13_7).lt
      have l4_8 : w.heap.size < w8.heap.size := B4_8.lt
      have c40_8 : w8.cell? ⟨w.heap.size, 0, none⟩ = some (.int .i64 (m : Int)) := B4_8.at_ (i := 0) rfl
      have c41_8 : w8.cell? ⟨w.heap.size, 1, none⟩ = some (.slice A n c) := B4_8.at_ (i := 1) rfl
      have l5_8 : w.heap.size + 1 < w8.heap.size := B5_8.lt
      have c50_8 : w8.cell? ⟨w.heap.size + 1, 0, none⟩ = some (.int .i64 W2) := B5_8.at_ (i := 0) rfl
      have c51_8 : w8.cell? ⟨w.heap.size + 1, 1, none⟩ = some (.slice A2 n2 c2) := B5_8.at_ (i := 1) rfl
      have l6_8 : w.heap.size + 1 + 1 < w8.heap.size := B6_8.lt
      have c60_8 : w8.cell? ⟨w.heap.size + 1 + 1, 0, none⟩ = some (.int .i64 key) := B6_8.at_ (i := 0) rfl
      have l7_8 : w.heap.size + 1 + 1 + 1 < w8.heap.size := B7_8.lt
      have c70_8 : w8.cell? ⟨w.heap.size + 1 + 1 + 1, 0, none⟩ = some (.int .i64 x) := B7_8.at_ (i := 0) rfl
      have l9_8 : w1.heap.size < w8.heap.size := B9_8.lt
      have c90_8 : w8.cell? ⟨w1.heap.size, 0, none⟩ = some (.int .i64 (sumW bx m)) := B9_8.at_ (i := 0) rfl
      have c91_8 : w8.cell? ⟨w1.heap.size, 1, none⟩ = some (.slice Ax nx cx) := B9_8.at_ (i := 1) rfl
      have l13_8 : w3.heap.size < w8.heap.size := B13_8.lt
      have c130_8 : w8.cell? ⟨w3.heap.size, 0, none⟩ = some (.int .i64 0) := B13_8.at_ (i := 0) rfl
      have c131_8 : w8.cell? ⟨w3.heap.size, 1, none⟩ = some (.slice Ay ny cy) := B13_8.at_ (i := 1) rfl
      have Sx_8 := (Sx_7).on kk8
      have Sy_8 := (Sy_7).on kk8
      clear B4_7 l4_7 c40_7 c41_7 B5_7 l5_7 c50_7 c51_7 B6_7 l6_7 c60_7 B7_7 l7_7 c70_7 B9_7 l9_7 c90_7 c91_7 B13_7 l13_7 c130_7 c131_7 Sx_7 Sy_7 kk8
      have HRP := hide hrp
      clear hrp
      go_wp2_with fail
      refine (sameTable_yes (Sx_8.on (by repeat' (first | assumption | with_reducible exact Below.refl _ _ | with_reducible apply Below.drew | with_reducible apply below_drewN | with_reducible apply below_alloc | with_reducible refine below_set ?_ ?_ _ | (simp only [World.size_alloc, World.heap_drewN]; omega) | (simp; omega)))) (sp.on (by repeat' (first | assumption | with_reducible exact Below.refl _ _ | with_reducible apply Below.drew | with_reducible apply below_drewN | with_reducible apply below_alloc | with_reducible refine below_set ?_ ?_ _ | (simp only [World.size_alloc, World.heap_drewN]; omega) | (simp; omega)))) (HRX.out.trans HRP.out.symm)).mono ?_
      rintro e w9 ⟨rfl, hb9⟩
      have kk9 : Below w8.heap.size w8 w9 := below_on (by repeat' (first | assumption | with_reducible exact Below.refl _ _ | with_reducible apply Below.drew | with_reducible apply below_drewN | with_reducible apply below_alloc | with_reducible refine below_set ?_ ?_ _ | (simp only [World.size_alloc, World.heap_drewN]; omega) | (simp; omega))) hb9
      have kw9 : Below w.heap.size w w9 := below_on kw8 kk9
      have zz9 := kk9.size
      have B4_9 := (B4_8).below kk9 (B4_8).lt
      have B5_9 := (B5_8).below kk9 (B5_8).lt
      have B6_9 := (B6_8).below kk9 (B6_8).lt
      have B7_9 := (B7_8).below kk9 (B7_8).lt
      have B9_9 := (B9_8).below kk9 (B9_8).lt
      have B13_9 := (B13_8).below kk9 (B13_8).lt
      have B19_9 := (Blk.new w8 65 #[.int .i64 (sumW bx m), .slice Ap np cp]).below hb9 (Blk.new w8 65 #[.int .i64 (sumW bx m), .slice Ap np cp]).lt
      have l4_9 : w.heap.size < w9.heap.size := B4_9.lt
      have c40_9 : w9.cell? ⟨w.heap.size, 0, none⟩ = some (.int .i64 (m : Int)) := B4_9.at_ (i := 0) rfl
      have c41_9 : w9.cell? ⟨w.heap.size, 1, none⟩ = some (.slice A n c) := B4_9.at_ (i := 1) rfl
      have l5_9 : w.heap.size + 1 < w9.heap.size := B5_9.lt
      have c50_9 : w9.cell? ⟨w.heap.size + 1, 0, none⟩ = some (.int .i64 W2) := B5_9.at_ (i := 0) rfl
      have c51_9 : w9.cell? ⟨w.heap.size + 1, 1, none⟩ = some (.slice A2 n2 c2) := B5_9.at_ (i := 1) rfl
      have l6_9 : w.heap.size + 1 + 1 < w9.heap.size := B6_9.lt
      have c60_9 : w9.cell? ⟨w.heap.size + 1 + 1, 0, none⟩ = some (.int .i64 key) := B6_9.at_ (i := 0) rfl
      have l7_9 : w.heap.size + 1 + 1 + 1 < w9.heap.size := B7_9.lt
      have c70_9 : w9.cell? ⟨w.heap.size + 1 + 1 + 1, 0, none⟩ = some (.int .i64 x) := B7_9.at_ (i := 0) rfl
      have l9_9 : w1.heap.size < w9.heap.size := B9_9.lt
      have c90_9 : w9.cell? ⟨w1.heap.size, 0, none⟩ = some (.int .i64 (sumW bx m)) := B9_9.at_ (i := 0) rfl
      have c91_9 : w9.cell? ⟨w1.heap.size, 1, none⟩ = some (.slice Ax nx cx) := B9_9.at_ (i := 1) rfl
      have l13_9 : w3.heap.size < w9.heap.size := B13_9.lt
      have c130_9 : w9.cell? ⟨w3.heap.size, 0, none⟩ = some (.int .i64 0) := B13_9.at_ (i := 0) rfl
      have c131_9 : w9.cell? ⟨w3.heap.size, 1, none⟩ = some (.slice Ay ny cy) := B13_9.at_ (i := 1) rfl
      have l19_9 : w8.heap.size < w9.heap.size := B19_9.lt
      have c190_9 : w9.cell? ⟨w8.heap.size, 0, none⟩ = some (.int .i64 (sumW bx m)) := B19_9.at_ (i := 0) rfl
      have c191_9 : w9.cell? ⟨w8.heap.size, 1, none⟩ = some (.slice Ap np cp) := B19_9.at_ (i := 1) rfl
      have Sx_9 := (Sx_8).on kk9
      have Sy_9 := (Sy_8).on kk9
      have Sp_9 := (sp).on kk9
      clear B4_8 l4_8 c40_8 c41_8 B5_8 l5_8 c50_8 c51_8 B6_8 l6_8 c60_8 B7_8 l7_8 c70_8 B9_8 l9_8 c90_8 c91_8 B13_8 l13_8 c130_8 c131_8 Sx_8 Sy_8 kk9
      go_wp2_with fail
      refine (HROWS2.out _ (h2.on (by repeat' (first | assumption | with_reducible exact Below.refl _ _ | with_reducible apply Below.drew | with_reducible apply below_drewN | with_reducible apply below_alloc | with_reducible refine below_set ?_ ?_ _ | (simp only [World.size_alloc, World.heap_drewN]; omega) | (simp; omega))))).mono ?_
      rintro e w10 ⟨rfl, hb10⟩
      have kk10 : Below w9.heap.size w9 w10 := below_on (by repeat' (first | assumption | with_reducible exact Below.refl _ _ | with_reducible apply Below.drew | with_reducible apply below_drewN | with_reducible apply below_alloc | with_reducible refine below_set ?_ ?_ _ | (simp only [World.size_alloc, World.heap_drewN]; omega) | (simp; omega))) hb10
      have kw10 : Below w.heap.size w w10 := below_on kw9 kk10
      have zz10 := kk10.size
      have B4_10 := (B4_9).below kk10 (B4_9).lt
      have B5_10 := (B5_9).below kk10 (B5_9).lt
      have B6_10 := (B6_9).below kk10 (B6_9).lt
      have B7_10 := (B7_9).below kk10 (B7_9).lt
      have B9_10 := (B9_9).below kk10 (B9_9).lt
      have B13_10 := (B13_9).below kk10 (B13_9).lt
      have B19_10 := (B19_9).below kk10 (B19_9).lt
      have l4_10 : w.heap.size < w10.heap.size := B4_10.lt
      have c40_10 : w10.cell? ⟨w.heap.size, 0, none⟩ = some (.int .i64 (m : Int)) := B4_10.at_ (i := 0) rfl
      have c41_10 : w10.cell? ⟨w.heap.size, 1, none⟩ = some (.slice A n c) := B4_10.at_ (i := 1) rfl
      have l5_10 : w.heap.size + 1 < w10.heap.size := B5_10.lt
      have c50_10 : w10.cell? ⟨w.heap.size + 1, 0, none⟩ = some (.int .i64 W2) := B5_10.at_ (i := 0) rfl
      have c51_10 : w10.cell? ⟨w.heap.size + 1, 1, none⟩ = some (.slice A2 n2 c2) := B5_10.at_ (i := 1) rfl
      have l6_10 : w.heap.size + 1 + 1 < w10.heap.size := B6_10.lt
      have c60_10 : w10.cell? ⟨w.heap.size + 1 + 1, 0, none⟩ = some (.int .i64 key) := B6_10.at_ (i := 0) rfl
      have l7_10 : w.heap.size + 1 + 1 + 1 < w10.heap.size := B7_10.lt
      have c70_10 : w10.cell? ⟨w.heap.size + 1 + 1 + 1, 0, none⟩ = some (.int .i64 x) := B7_10.at_ (i := 0) rfl
      have l9_10 : w1.heap.size < w10.heap.size := B9_10.lt
      have c90_10 : w10.cell? ⟨w1.heap.size, 0, none⟩ = some (.int .i64 (sumW bx m)) := B9_10.at_ (i := 0) rfl
      have c91_10 : w10.cell? ⟨w1.heap.size, 1, none⟩ = some (.slice Ax nx cx) := B9_10.at_ (i := 1) rfl
      have l13_10 : w3.heap.size < w10.heap.size := B13_10.lt
      have c130_10 : w10.cell? ⟨w3.heap.size, 0, none⟩ = some (.int .i64 0) := B13_10.at_ (i := 0) rfl
      have c131_10 : w10.cell? ⟨w3.heap.size, 1, none⟩ = some (.slice Ay ny cy) := B13_10.at_ (i := 1) rfl
      have l19_10 : w8.heap.size < w10.heap.size := B19_10.lt
      have c190_10 : w10.cell? ⟨w8.heap.size, 0, none⟩ = some (.int .i64 (sumW bx m)) := B19_10.at_ (i := 0) rfl
      have c191_10 : w10.cell? ⟨w8.heap.size, 1, none⟩ = some (.slice Ap np cp) := B19_10.at_ (i := 1) rfl
      have Sx_10 := (Sx_9).on kk10
      have Sy_10 := (Sy_9).on kk10
      have Sp_10 := (Sp_9).on kk10
      clear B4_9 l4_9 c40_9 c41_9 B5_9 l5_9 c50_9 c51_9 B6_9 l6_9 c60_9 B7_9 l7_9 c70_9 B9_9 l9_9 c90_9 c91_9 B13_9 l13_9 c130_9 c131_9 B19_9 l19_9 c190_9 c191_9 Sx_9 Sy_9 Sp_9 kk10
      go_wp2_with fail
      refine (sameTable_yes (Sy_10.on (by repeat' (first | assumption | with_reducible exact Below.refl _ _ | with_reducible apply Below.drew | with_reducible apply below_drewN | with_reducible apply below_alloc | with_reducible refine below_set ?_ ?_ _ | (simp only [World.size_alloc, World.heap_drewN]; omega) | (simp; omega)))) (Ss.none _) HRY.out).mono ?_
      rintro e w11 ⟨rfl, hb11⟩
      have kk11 : Below w10.heap.size w10 w11 := below_on (by repeat' (first | assumption | with_reducible exact Below.refl _ _ | with_reducible apply Below.drew | with_reducible apply below_drewN | with_reducible apply below_alloc | with_reducible refine below_set ?_ ?_ _ | (simp only [World.size_alloc, World.heap_drewN]; omega) | (simp; omega))) hb11
      have kw11 : Below w.heap.size w w11 := below_on kw10 kk11
      have zz11 := kk11.size
      have B4_11 := (B4_10).below kk11 (B4_10).lt
      have B5_11 := (B5_10).below kk11 (B5_10).lt
      have B6_11 := (B6_10).below kk11 (B6_10).lt
      have B7_11 := (B7_10).below kk11 (B7_10).lt
      have B9_11 := (B9_10).below kk11 (B9_10).lt
      have B13_11 := (B13_10).below kk11 (B13_10).lt
      have B19_11 := (B19_10).below kk11 (B19_10).lt
      have l4_11 : w.heap.size < w11.heap.size := B4_11.lt
      have c40_11 : w11.cell? ⟨w.heap.size, 0, none⟩ = some (.int .i64 (m : Int)) := B4_11.at_ (i := 0) rfl
      have c41_11 : w11.cell? ⟨w.heap.size, 1, none⟩ = some (.slice A n c) := B4_11.at_ (i := 1) rfl
      have l5_11 : w.heap.size + 1 < w11.heap.size := B5_11.lt
      have c50_11 : w11.cell? ⟨w.heap.size + 1, 0, none⟩ = some (.int .i64 W2) := B5_11.at_ (i := 0) rfl
      have c51_11 : w11.cell? ⟨w.heap.size + 1, 1, none⟩ = some (.slice A2 n2 c2) := B5_11.at_ (i := 1) rfl
      have l6_11 : w.heap.size + 1 + 1 < w11.heap.size := B6_11.lt
      have c60_11 : w11.cell? ⟨w.heap.size + 1 + 1, 0, none⟩ = some (.int .i64 key) := B6_11.at_ (i := 0) rfl
      have l7_11 : w.heap.size + 1 + 1 + 1 < w11.heap.size := B7_11.lt
      have c70_11 : w11.cell? ⟨w.heap.size + 1 + 1 + 1, 0, none⟩ = some (.int .i64 x) := B7_11.at_ (i := 0) rfl
      have l9_11 : w1.heap.size < w11.heap.size := B9_11.lt
      have c90_11 : w11.cell? ⟨w1.heap.size, 0, none⟩ = some (.int .i64 (sumW bx m)) := B9_11.at_ (i := 0) rfl
      have c91_11 : w11.cell? ⟨w1.heap.size, 1, none⟩ = some (.slice Ax nx cx) := B9_11.at_ (i := 1) rfl
      have l13_11 : w3.heap.size < w11.heap.size := B13_11.lt
      have c130_11 : w11.cell? ⟨w3.heap.size, 0, none⟩ = some (.int .i64 0) := B13_11.at_ (i := 0) rfl
      have c131_11 : w11.cell? ⟨w3.heap.size, 1, none⟩ = some (.slice Ay ny cy) := B13_11.at_ (i := 1) rfl
      have l19_11 : w8.heap.size < w11.heap.size := B19_11.lt
      have c190_11 : w11.cell? ⟨w8.heap.size, 0, none⟩ = some (.int .i64 (sumW bx m)) := B19_11.at_ (i := 0) rfl
      have c191_11 : w11.cell? ⟨w8.heap.size, 1, none⟩ = some (.slice Ap np cp) := B19_11.at_ (i := 1) rfl
      have Sx_11 := (Sx_10).on kk11
      have Sy_11 := (Sy_10).on kk11
      have Sp_11 := (Sp_10).on kk11
      clear B4_10 l4_10 c40_10 c41_10 B5_10 l5_10 c50_10 c51_10 B6_10 l6_10 c60_10 B7_10 l7_10 c70_10 B9_10 l9_10 c90_10 c91_10 B13_10 l13_10 c130_10 c131_10 B19_10 l19_10 c190_10 c191_10 Sx_10 Sy_10 Sp_10 kk11
      go_wp2_with fail
      go_ret
      exact ⟨rfl, kw11⟩
end Go.Proofs.Ytjmkejindmgckaa
