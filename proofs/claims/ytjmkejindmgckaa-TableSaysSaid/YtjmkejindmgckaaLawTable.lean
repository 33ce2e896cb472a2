/-
  The walk of the law TableSays, case by case. Conditions: the rows read as lists of numbers.
-/
import Derived.Test.YtjmkejindmgckaaTable8
namespace Go.Proofs.Ytjmkejindmgckaa
open Go.RowKit

theorem zero_tab : tabErr 0 0 (rows []) = 1 := by decide
theorem rrows_is {W : Int} {A : Option Addr} {n c : Nat} {os : List Row} {w : World} (h : Ss w A n c os) {E : Int} (he : tabErr W n (rows os) = E) :
    Calls Try.prog 42 #[.agg #[.int .i64 W, .slice A n c]] w fun e w' => e = .returned (.int .i64 E) ∧ Below w.heap.size w w' := by
  have k := rrows_any (W := W) h; rw [he] at k; exact k
set_option maxRecDepth 100000 in
set_option maxHeartbeats 6400000 in
theorem law_table_bad {A A2 : Option Addr} {n c n2 c2 : Nat} {W W2 key x : Int} {os os2 : List Row} {w : World} (h : Ss w A n c os) (h2 : Ss w A2 n2 c2 os2) {E : Int} (he : tabErr W n (rows os) = E) (h0 : ¬ E = 0) :
    Calls Try.prog 8 #[.agg #[.int .i64 W, .slice A n c], .agg #[.int .i64 W2, .slice A2 n2 c2], .int .i64 key, .int .i64 x] w fun e w' => e = .returned (.bool true) ∧ Below w.heap.size w w' := by
  have hm1 := h.s.len_max
  have hm2 := h2.s.len_max
  have HE := hide he
  have HN0 := hide h0
  have HJ := hide (show tjErr W n (rows os) W2 n2 (rows os2) = E by unfold tjErr; rw [he, if_pos h0])
  have HJ0 := hide h0
  have HROWS := hide (fun (w : World) (h : Ss w A n c os) => rrows_is (W := W) h he)
  have t1 : (E != 0) = true := by simpa using h0
  have t2 : (E != E) = false := by simp
  have t3 : (E == E) = true := by simp
  clear he h0
  have b4 := (((Blk.new w 65 #[.int .i64 W, .slice A n c]).alloc (.cells #[.int .i64 W2, .slice A2 n2 c2] 65)).alloc (.cells #[.int .i64 key] 3)).alloc (.cells #[.int .i64 x] 3)
  have b5 := ((Blk.new (w.alloc (.cells #[.int .i64 W, .slice A n c] 65)) 65 #[.int .i64 W2, .slice A2 n2 c2]).alloc (.cells #[.int .i64 key] 3)).alloc (.cells #[.int .i64 x] 3)
  have b6 := (Blk.new ((w.alloc (.cells #[.int .i64 W, .slice A n c] 65)).alloc (.cells #[.int .i64 W2, .slice A2 n2 c2] 65)) 3 #[.int .i64 key]).alloc (.cells #[.int .i64 x] 3)
  have b7 := Blk.new (((w.alloc (.cells #[.int .i64 W, .slice A n c] 65)).alloc (.cells #[.int .i64 W2, .slice A2 n2 c2] 65)).alloc (.cells #[.int .i64 key] 3)) 3 #[.int .i64 x]
  simp only [World.size_alloc] at b5 b6 b7
  have hkw : Below w.heap.size w ((((w.alloc (.cells #[.int .i64 W, .slice A n c] 65)).alloc (.cells #[.int .i64 W2, .slice A2 n2 c2] 65)).alloc (.cells #[.int .i64 key] 3)).alloc (.cells #[.int .i64 x] 3)) := by repeat' (first | assumption | with_reducible exact Below.refl _ _ | with_reducible apply Below.drew | with_reducible apply below_drewN | with_reducible apply below_alloc | with_reducible refine below_set ?_ ?_ _ | (simp only [World.size_alloc, World.heap_drewN]; omega) | (simp; omega))
  have H4 := hide b4
  have H5 := hide b5
  have H6 := hide b6
  have H7 := hide b7
  have HKW := hide hkw
  clear b4 b5 b6 b7 hkw
  go_enter Try.func8, Try.ntmps8
  go_wp2_with fail
  have kw := HKW.out
  refine (tput_bad (h.on HKW.out) HE.out HN0.out).mono ?_
  rintro e w1 ⟨Ax, nx, cx, ox, rfl, sx, hrx, hb1⟩
  have kk1 := hb1
  have kw1 : Below w.heap.size w w1 := below_on kw kk1
  have zz1 := kk1.size
  have B4_1 := (H4.out).below kk1 (H4.out).lt
  have B5_1 := (H5.out).below kk1 (H5.out).lt
  have B6_1 := (H6.out).below kk1 (H6.out).lt
  have B7_1 := (H7.out).below kk1 (H7.out).lt
  have l4_1 : w.heap.size < w1.heap.size := B4_1.lt
  have c40_1 : w1.cell? ⟨w.heap.size, 0, none⟩ = some (.int .i64 W) := B4_1.at_ (i := 0) rfl
  have c41_1 : w1.cell? ⟨w.heap.size, 1, none⟩ = some (.slice A n c) := B4_1.at_ (i := 1) rfl
  have l5_1 : w.heap.size + 1 < w1.heap.size := B5_1.lt
  have c50_1 : w1.cell? ⟨w.heap.size + 1, 0, none⟩ = some (.int .i64 W2) := B5_1.at_ (i := 0) rfl
  have c51_1 : w1.cell? ⟨w.heap.size + 1, 1, none⟩ = some (.slice A2 n2 c2) := B5_1.at_ (i := 1) rfl
  have l6_1 : w.heap.size + 1 + 1 < w1.heap.size := B6_1.lt
  have c60_1 : w1.cell? ⟨w.heap.size + 1 + 1, 0, none⟩ = some (.int .i64 key) := B6_1.at_ (i := 0) rfl
  have l7_1 : w.heap.size + 1 + 1 + 1 < w1.heap.size := B7_1.lt
  have c70_1 : w1.cell? ⟨w.heap.size + 1 + 1 + 1, 0, none⟩ = some (.int .i64 x) := B7_1.at_ (i := 0) rfl
  have HRX := hide hrx
  clear hrx
  go_wp2_with fail
  refine (task_bad (h.on (by repeat' (first | assumption | with_reducible exact Below.refl _ _ | with_reducible apply Below.drew | with_reducible apply below_drewN | with_reducible apply below_alloc | with_reducible refine below_set ?_ ?_ _ | (simp only [World.size_alloc, World.heap_drewN]; omega) | (simp; omega)))) HE.out HN0.out).mono ?_
  rintro e w2 ⟨rfl, hb2⟩
  have kk2 : Below w1.heap.size w1 w2 := below_on (by repeat' (first | assumption | with_reducible exact Below.refl _ _ | with_reducible apply Below.drew | with_reducible apply below_drewN | with_reducible apply below_alloc | with_reducible refine below_set ?_ ?_ _ | (simp only [World.size_alloc, World.heap_drewN]; omega) | (simp; omega))) hb2
  have kw2 : Below w.heap.size w w2 := below_on kw1 kk2
  have zz2 := kk2.size
  have B4_2 := (B4_1).below kk2 (B4_1).lt
  have B5_2 := (B5_1).below kk2 (B5_1).lt
  have B6_2 := (B6_1).below kk2 (B6_1).lt
  have B7_2 := (B7_1).below kk2 (B7_1).lt
  have B9_2 := (Blk.new w1 65 #[.int .i64 0, .slice Ax nx cx]).below hb2 (Blk.new w1 65 #[.int .i64 0, .slice Ax nx cx]).lt
  have l4_2 : w.heap.size < w2.heap.size := B4_2.lt
  have c40_2 : w2.cell? ⟨w.heap.size, 0, none⟩ = some (.int .i64 W) := B4_2.at_ (i := 0) rfl
  have c41_2 : w2.cell? ⟨w.heap.size, 1, none⟩ = some (.slice A n c) := B4_2.at_ (i := 1) rfl
  have l5_2 : w.heap.size + 1 < w2.heap.size := B5_2.lt
  have c50_2 : w2.cell? ⟨w.heap.size + 1, 0, none⟩ = some (.int .i64 W2) := B5_2.at_ (i := 0) rfl
  have c51_2 : w2.cell? ⟨w.heap.size + 1, 1, none⟩ = some (.slice A2 n2 c2) := B5_2.at_ (i := 1) rfl
  have l6_2 : w.heap.size + 1 + 1 < w2.heap.size := B6_2.lt
  have c60_2 : w2.cell? ⟨w.heap.size + 1 + 1, 0, none⟩ = some (.int .i64 key) := B6_2.at_ (i := 0) rfl
  have l7_2 : w.heap.size + 1 + 1 + 1 < w2.heap.size := B7_2.lt
  have c70_2 : w2.cell? ⟨w.heap.size + 1 + 1 + 1, 0, none⟩ = some (.int .i64 x) := B7_2.at_ (i := 0) rfl
  have l9_2 : w1.heap.size < w2.heap.size := B9_2.lt
  have c90_2 : w2.cell? ⟨w1.heap.size, 0, none⟩ = some (.int .i64 0) := B9_2.at_ (i := 0) rfl
  have c91_2 : w2.cell? ⟨w1.heap.size, 1, none⟩ = some (.slice Ax nx cx) := B9_2.at_ (i := 1) rfl
  have Sx_2 := (sx).on kk2
  clear B4_1 l4_1 c40_1 c41_1 B5_1 l5_1 c50_1 c51_1 B6_1 l6_1 c60_1 B7_1 l7_1 c70_1 kk2
  go_wp2_with fail
  refine (tjoin_bad (h.on (by repeat' (first | assumption | with_reducible exact Below.refl _ _ | with_reducible apply Below.drew | with_reducible apply below_drewN | with_reducible apply below_alloc | with_reducible refine below_set ?_ ?_ _ | (simp only [World.size_alloc, World.heap_drewN]; omega) | (simp; omega)))) (h2.on (by repeat' (first | assumption | with_reducible exact Below.refl _ _ | with_reducible apply Below.drew | with_reducible apply below_drewN | with_reducible apply below_alloc | with_reducible refine below_set ?_ ?_ _ | (simp only [World.size_alloc, World.heap_drewN]; omega) | (simp; omega)))) HJ.out HJ0.out).mono ?_
  rintro e w3 ⟨Ay, ny, cy, oy, rfl, sy, hry, hb3⟩
  have kk3 : Below w2.heap.size w2 w3 := below_on (by repeat' (first | assumption | with_reducible exact Below.refl _ _ | with_reducible apply Below.drew | with_reducible apply below_drewN | with_reducible apply below_alloc | with_reducible refine below_set ?_ ?_ _ | (simp only [World.size_alloc, World.heap_drewN]; omega) | (simp; omega))) hb3
  have kw3 : Below w.heap.size w w3 := below_on kw2 kk3
  have zz3 := kk3.size
  have B4_3 := (B4_2).below kk3 (B4_2).lt
  have B5_3 := (B5_2).below kk3 (B5_2).lt
  have B6_3 := (B6_2).below kk3 (B6_2).lt
  have B7_3 := (B7_2).below kk3 (B7_2).lt
  have B9_3 := (B9_2).below kk3 (B9_2).lt
  have l4_3 : w.heap.size < w3.heap.size := B4_3.lt
  have c40_3 : w3.cell? ⟨w.heap.size, 0, none⟩ = some (.int .i64 W) := B4_3.at_ (i := 0) rfl
  have c41_3 : w3.cell? ⟨w.heap.size, 1, none⟩ = some (.slice A n c) := B4_3.at_ (i := 1) rfl
  have l5_3 : w.heap.size + 1 < w3.heap.size := B5_3.lt
  have c50_3 : w3.cell? ⟨w.heap.size + 1, 0, none⟩ = some (.int .i64 W2) := B5_3.at_ (i := 0) rfl
  have c51_3 : w3.cell? ⟨w.heap.size + 1, 1, none⟩ = some (.slice A2 n2 c2) := B5_3.at_ (i := 1) rfl
  have l6_3 : w.heap.size + 1 + 1 < w3.heap.size := B6_3.lt
  have c60_3 : w3.cell? ⟨w.heap.size + 1 + 1, 0, none⟩ = some (.int .i64 key) := B6_3.at_ (i := 0) rfl
  have l7_3 : w.heap.size + 1 + 1 + 1 < w3.heap.size := B7_3.lt
  have c70_3 : w3.cell? ⟨w.heap.size + 1 + 1 + 1, 0, none⟩ = some (.int .i64 x) := B7_3.at_ (i := 0) rfl
  have l9_3 : w1.heap.size < w3.heap.size := B9_3.lt
  have c90_3 : w3.cell? ⟨w1.heap.size, 0, none⟩ = some (.int .i64 0) := B9_3.at_ (i := 0) rfl
  have c91_3 : w3.cell? ⟨w1.heap.size, 1, none⟩ = some (.slice Ax nx cx) := B9_3.at_ (i := 1) rfl
  have Sx_3 := (Sx_2).on kk3
  clear B4_2 l4_2 c40_2 c41_2 B5_2 l5_2 c50_2 c51_2 B6_2 l6_2 c60_2 B7_2 l7_2 c70_2 B9_2 l9_2 c90_2 c91_2 Sx_2 kk3
  have HRY := hide hry
  clear hry
  go_wp2_with fail
  refine (HROWS.out _ (h.on (by repeat' (first | assumption | with_reducible exact Below.refl _ _ | with_reducible apply Below.drew | with_reducible apply below_drewN | with_reducible apply below_alloc | with_reducible refine below_set ?_ ?_ _ | (simp only [World.size_alloc, World.heap_drewN]; omega) | (simp; omega))))).mono ?_
  rintro e w4 ⟨rfl, hb4⟩
  have kk4 : Below w3.heap.size w3 w4 := below_on (by repeat' (first | assumption | with_reducible exact Below.refl _ _ | with_reducible apply Below.drew | with_reducible apply below_drewN | with_reducible apply below_alloc | with_reducible refine below_set ?_ ?_ _ | (simp only [World.size_alloc, World.heap_drewN]; omega) | (simp; omega))) hb4
  have kw4 : Below w.heap.size w w4 := below_on kw3 kk4
  have zz4 := kk4.size
  have B4_4 := (B4_3).below kk4 (B4_3).lt
  have B5_4 := (B5_3).below kk4 (B5_3).lt
  have B6_4 := (B6_3).below kk4 (B6_3).lt
  have B7_4 := (B7_3).below kk4 (B7_3).lt
  have B9_4 := (B9_3).below kk4 (B9_3).lt
  have B13_4 := (Blk.new w3 65 #[.int .i64 0, .slice Ay ny cy]).below hb4 (Blk.new w3 65 #[.int .i64 0, .slice Ay ny cy]).lt
  have l4_4 : w.heap.size < w4.heap.size := B4_4.lt
  have c40_4 : w4.cell? ⟨w.heap.size, 0, none⟩ = some (.int .i64 W) := B4_4.at_ (i := 0) rfl
  have c41_4 : w4.cell? ⟨w.heap.size, 1, none⟩ = some (.slice A n c) := B4_4.at_ (i := 1) rfl
  have l5_4 : w.heap.size + 1 < w4.heap.size := B5_4.lt
  have c50_4 : w4.cell? ⟨w.heap.size + 1, 0, none⟩ = some (.int .i64 W2) := B5_4.at_ (i := 0) rfl
  have c51_4 : w4.cell? ⟨w.heap.size + 1, 1, none⟩ = some (.slice A2 n2 c2) := B5_4.at_ (i := 1) rfl
  have l6_4 : w.heap.size + 1 + 1 < w4.heap.size := B6_4.lt
  have c60_4 : w4.cell? ⟨w.heap.size + 1 + 1, 0, none⟩ = some (.int .i64 key) := B6_4.at_ (i := 0) rfl
  have l7_4 : w.heap.size + 1 + 1 + 1 < w4.heap.size := B7_4.lt
  have c70_4 : w4.cell? ⟨w.heap.size + 1 + 1 + 1, 0, none⟩ = some (.int .i64 x) := B7_4.at_ (i := 0) rfl
  have l9_4 : w1.heap.size < w4.heap.size := B9_4.lt
  have c90_4 : w4.cell? ⟨w1.heap.size, 0, none⟩ = some (.int .i64 0) := B9_4.at_ (i := 0) rfl
  have c91_4 : w4.cell? ⟨w1.heap.size, 1, none⟩ = some (.slice Ax nx cx) := B9_4.at_ (i := 1) rfl
  have l13_4 : w3.heap.size < w4.heap.size := B13_4.lt
  have c130_4 : w4.cell? ⟨w3.heap.size, 0, none⟩ = some (.int .i64 0) := B13_4.at_ (i := 0) rfl
  have c131_4 : w4.cell? ⟨w3.heap.size, 1, none⟩ = some (.slice Ay ny cy) := B13_4.at_ (i := 1) rfl
  have Sx_4 := (Sx_3).on kk4
  have Sy_4 := (sy).on kk4
  clear B4_3 l4_3 c40_3 c41_3 B5_3 l5_3 c50_3 c51_3 B6_3 l6_3 c60_3 B7_3 l7_3 c70_3 B9_3 l9_3 c90_3 c91_3 Sx_3 kk4
  go_wp2_with fail
  refine (tcheck_is (h.on (by repeat' (first | assumption | with_reducible exact Below.refl _ _ | with_reducible apply Below.drew | with_reducible apply below_drewN | with_reducible apply below_alloc | with_reducible refine below_set ?_ ?_ _ | (simp only [World.size_alloc, World.heap_drewN]; omega) | (simp; omega)))) HE.out).mono ?_
  rintro e w5 ⟨rfl, hb5⟩
  have kk5 : Below w4.heap.size w4 w5 := below_on (by repeat' (first | assumption | with_reducible exact Below.refl _ _ | with_reducible apply Below.drew | with_reducible apply below_drewN | with_reducible apply below_alloc | with_reducible refine below_set ?_ ?_ _ | (simp only [World.size_alloc, World.heap_drewN]; omega) | (simp; omega))) hb5
  have kw5 : Below w.heap.size w w5 := below_on kw4 kk5
  have zz5 := kk5.size
  have B4_5 := (B4_4).below kk5 (B4_4).lt
  have B5_5 := (B5_4).below kk5 (B5_4).lt
  have B6_5 := (B6_4).below kk5 (B6_4).lt
  have B7_5 := (B7_4).below kk5 (B7_4).lt
  have B9_5 := (B9_4).below kk5 (B9_4).lt
  have B13_5 := (B13_4).below kk5 (B13_4).lt
  have l4_5 : w.heap.size < w5.heap.size := B4_5.lt
  have c40_5 : w5.cell? ⟨w.heap.size, 0, none⟩ = some (.int .i64 W) := B4_5.at_ (i := 0) rfl
  have c41_5 : w5.cell? ⟨w.heap.size, 1, none⟩ = some (.slice A n c) := B4_5.at_ (i := 1) rfl
  have l5_5 : w.heap.size + 1 < w5.heap.size := B5_5.lt
  have c50_5 : w5.cell? ⟨w.heap.size + 1, 0, none⟩ = some (.int .i64 W2) := B5_5.at_ (i := 0) rfl
  have c51_5 : w5.cell? ⟨w.heap.size + 1, 1, none⟩ = some (.slice A2 n2 c2) := B5_5.at_ (i := 1) rfl
  have l6_5 : w.heap.size + 1 + 1 < w5.heap.size := B6_5.lt
  have c60_5 : w5.cell? ⟨w.heap.size + 1 + 1, 0, none⟩ = some (.int .i64 key) := B6_5.at_ (i := 0) rfl
  have l7_5 : w.heap.size + 1 + 1 + 1 < w5.heap.size := B7_5.lt
  have c70_5 : w5.cell? ⟨w.heap.size + 1 + 1 + 1, 0, none⟩ = some (.int .i64 x) := B7_5.at_ (i := 0) rfl
  have l9_5 : w1.heap.size < w5.heap.size := B9_5.lt
  have c90_5 : w5.cell? ⟨w1.heap.size, 0, none⟩ = some (.int .i64 0) := B9_5.at_ (i := 0) rfl
  have c91_5 : w5.cell? ⟨w1.heap.size, 1, none⟩ = some (.slice Ax nx cx) := B9_5.at_ (i := 1) rfl
  have l13_5 : w3.heap.size < w5.heap.size := B13_5.lt
  have c130_5 : w5.cell? ⟨w3.heap.size, 0, none⟩ = some (.int .i64 0) := B13_5.at_ (i := 0) rfl
  have c131_5 : w5.cell? ⟨w3.heap.size, 1, none⟩ = some (.slice Ay ny cy) := B13_5.at_ (i := 1) rfl
  have Sx_5 := (Sx_4).on kk5
  have Sy_5 := (Sy_4).on kk5
  clear B4_4 l4_4 c40_4 c41_4 B5_4 l5_4 c50_4 c51_4 B6_4 l6_4 c60_4 B7_4 l7_4 c70_4 B9_4 l9_4 c90_4 c91_4 B13_4 l13_4 c130_4 c131_4 Sx_4 Sy_4 kk5
  go_wp2_with fail
  refine (tcheck_is (Ss.none _) zero_tab).mono ?_
  rintro e w6 ⟨rfl, hb6⟩
  have kk6 : Below w5.heap.size w5 w6 := below_on (by repeat' (first | assumption | with_reducible exact Below.refl _ _ | with_reducible apply Below.drew | with_reducible apply below_drewN | with_reducible apply below_alloc | with_reducible refine below_set ?_ ?_ _ | (simp only [World.size_alloc, World.heap_drewN]; omega) | (simp; omega))) hb6
  have kw6 : Below w.heap.size w w6 := below_on kw5 kk6
  have zz6 := kk6.size
  have B4_6 := (B4_5).below kk6 (B4_5).lt
  have B5_6 := (B5_5).below kk6 (B5_5).lt
  have B6_6 := (B6_5).below kk6 (B6_5).lt
  have B7_6 := (B7_5).below kk6 (B7_5).lt
  have B9_6 := (B9_5).below kk6 (B9_5).lt
  have B13_6 := (B13_5).below kk6 (B13_5).lt
  have l4_6 : w.heap.size < w6.heap.size := B4_6.lt
  have c40_6 : w6.cell? ⟨w.heap.size, 0, none⟩ = some (.int .i64 W) := B4_6.at_ (i := 0) rfl
  have c41_6 : w6.cell? ⟨w.heap.size, 1, none⟩ = some (.slice A n c) := B4_6.at_ (i := 1) rfl
  have l5_6 : w.heap.size + 1 < w6.heap.size := B5_6.lt
  have c50_6 : w6.cell? ⟨w.heap.size + 1, 0, none⟩ = some (.int .i64 W2) := B5_6.at_ (i := 0) rfl
  have c51_6 : w6.cell? ⟨w.heap.size + 1, 1, none⟩ = some (.slice A2 n2 c2) := B5_6.at_ (i := 1) rfl
  have l6_6 : w.heap.size + 1 + 1 < w6.heap.size := B6_6.lt
  have c60_6 : w6.cell? ⟨w.heap.size + 1 + 1, 0, none⟩ = some (.int .i64 key) := B6_6.at_ (i := 0) rfl
  have l7_6 : w.heap.size + 1 + 1 + 1 < w6.heap.size := B7_6.lt
  have c70_6 : w6.cell? ⟨w.heap.size + 1 + 1 + 1, 0, none⟩ = some (.int .i64 x) := B7_6.at_ (i := 0) rfl
  have l9_6 : w1.heap.size < w6.heap.size := B9_6.lt
  have c90_6 : w6.cell? ⟨w1.heap.size, 0, none⟩ = some (.int .i64 0) := B9_6.at_ (i := 0) rfl
  have c91_6 : w6.cell? ⟨w1.heap.size, 1, none⟩ = some (.slice Ax nx cx) := B9_6.at_ (i := 1) rfl
  have l13_6 : w3.heap.size < w6.heap.size := B13_6.lt
  have c130_6 : w6.cell? ⟨w3.heap.size, 0, none⟩ = some (.int .i64 0) := B13_6.at_ (i := 0) rfl
  have c131_6 : w6.cell? ⟨w3.heap.size, 1, none⟩ = some (.slice Ay ny cy) := B13_6.at_ (i := 1) rfl
  have Sx_6 := (Sx_5).on kk6
  have Sy_6 := (Sy_5).on kk6
  clear B4_5 l4_5 c40_5 c41_5 B5_5 l5_5 c50_5 c51_5 B6_5 l6_5 c60_5 B7_5 l7_5 c70_5 B9_5 l9_5 c90_5 c91_5 B13_5 l13_5 c130_5 c131_5 Sx_5 Sy_5 kk6
  go_wp2_with fail
  refine (sameTable_yes (Sx_6.on (by repeat' (first | assumption | with_reducible exact Below.refl _ _ | with_reducible apply Below.drew | with_reducible apply below_drewN | with_reducible apply below_alloc | with_reducible refine below_set ?_ ?_ _ | (simp only [World.size_alloc, World.heap_drewN]; omega) | (simp; omega)))) (Ss.none _) HRX.out).mono ?_
  rintro e w7 ⟨rfl, hb7⟩
  have kk7 : Below w6.heap.size w6 w7 := below_on (by repeat' (first | assumption | with_reducible exact Below.refl _ _ | with_reducible apply Below.drew | with_reducible apply below_drewN | with_reducible apply below_alloc | with_reducible refine below_set ?_ ?_ _ | (simp only [World.size_alloc, World.heap_drewN]; omega) | (simp; omega))) hb7
  have kw7 : Below w.heap.size w w7 := below_on kw6 kk7
  have zz7 := kk7.size
  have B4_7 := (B4_6).below kk7 (B4_6).lt
  have B5_7 := (B5_6).below kk7 (B5_6).lt
  have B6_7 := (B6_6).below kk7 (B6_6).lt
  have B7_7 := (B7_6).below kk7 (B7_6).lt
  have B9_7 := (B9_6).below kk7 (B9_6).lt
  have B13_7 := (B13_6).below kk7 (B13_6).lt
  have l4_7 : w.heap.size < w7.heap.size := B4_7.lt
  have c40_7 : w7.cell? ⟨w.heap.size, 0, none⟩ = some (.int .i64 W) := B4_7.at_ (i := 0) rfl
  have c41_7 : w7.cell? ⟨w.heap.size, 1, none⟩ = some (.slice A n c) := B4_7.at_ (i := 1) rfl
  have l5_7 : w.heap.size + 1 < w7.heap.size := B5_7.lt
  have c50_7 : w7.cell? ⟨w.heap.size + 1, 0, none⟩ = some (.int .i64 W2) := B5_7.at_ (i := 0) rfl
  have c51_7 : w7.cell? ⟨w.heap.size + 1, 1, none⟩ = some (.slice A2 n2 c2) := B5_7.at_ (i := 1) rfl
  have l6_7 : w.heap.size + 1 + 1 < w7.heap.size := B6_7.lt
  have c60_7 : w7.cell? ⟨w.heap.size + 1 + 1, 0, none⟩ = some (.int .i64 key) := B6_7.at_ (i := 0) rfl
  have l7_7 : w.heap.size + 1 + 1 + 1 < w7.heap.size := B7_7.lt
  have c70_7 : w7.cell? ⟨w.heap.size + 1 + 1 + 1, 0, none⟩ = some (.int .i64 x) := B7_7.at_ (i := 0) rfl
  have l9_7 : w1.heap.size < w7.heap.size := B9_7.lt
  have c90_7 : w7.cell? ⟨w1.heap.size, 0, none⟩ = some (.int .i64 0) := B9_7.at_ (i := 0) rfl
  have c91_7 : w7.cell? ⟨w1.heap.size, 1, none⟩ = some (.slice Ax nx cx) := B9_7.at_ (i := 1) rfl
  have l13_7 : w3.heap.size < w7.heap.size := B13_7.lt
  have c130_7 : w7.cell? ⟨w3.heap.size, 0, none⟩ = some (.int .i64 0) := B13_7.at_ (i := 0) rfl
  have c131_7 : w7.cell? ⟨w3.heap.size, 1, none⟩ = some (.slice Ay ny cy) := B13_7.at_ (i := 1) rfl
  have Sx_7 := (Sx_6).on kk7
  have Sy_7 := (Sy_6).on kk7
  clear B4_6 l4_6 c40_6 c41_6 B5_6 l5_6 c50_6 c51_6 B6_6 l6_6 c60_6 B7_6 l7_6 c70_6 B9_6 l9_6 c90_6 c91_6 B13_6 l13_6 c130_6 c131_6 Sx_6 Sy_6 kk7
  go_wp2_with fail
  refine (sameTable_yes (Sy_7.on (by repeat' (first | assumption | with_reducible exact Below.refl _ _ | with_reducible apply Below.drew | with_reducible apply below_drewN | with_reducible apply below_alloc | with_reducible refine below_set ?_ ?_ _ | (simp only [World.size_alloc, World.heap_drewN]; omega) | (simp; omega)))) (Ss.none _) HRY.out).mono ?_
  rintro e w8 ⟨rfl, hb8⟩
  have kk8 : Below w7.heap.size w7 w8 := below_on (by repeat' (first | assumption | with_reducible exact Below.refl _ _ | with_reducible apply Below.drew | with_reducible apply below_drewN | with_reducible apply below_alloc | with_reducible refine below_set ?_ ?_ _ | (simp only [World.size_alloc, World.heap_drewN]; omega) | (simp; omega))) hb8
  have kw8 : Below w.heap.size w w8 := below_on kw7 kk8
  have zz8 := kk8.size
  have B4_8 := (B4_7).below kk8 (B4_7).lt
  have B5_8 := (B5_7).below kk8 (B5_7).lt
  have B6_8 := (B6_7).below kk8 (B6_7).lt
  have B7_8 := (B7_7).below kk8 (B7_7).lt
  have B9_8 := (B9_7).below kk8 (B9_7).lt
  have B13_8 := (B13_7).below kk8 (B13_7).lt
  have l4_8 : w.heap.size < w8.heap.size := B4_8.lt
  have c40_8 : w8.cell? ⟨w.heap.size, 0, none⟩ = some (.int .i64 W) := B4_8.at_ (i := 0) rfl
  have c41_8 : w8.cell? ⟨w.heap.size, 1, none⟩ = some (.slice A n c) := B4_8.at_ (i := 1) rfl
  have l5_8 : w.heap.size + 1 < w8.heap.size := B5_8.lt
  have c50_8 : w8.cell? ⟨w.heap.size + 1, 0, none⟩ = some (.int .i64 W2) := B5_8.at_ (i := 0) rfl
  have c51_8 : w8.cell? ⟨w.heap.size + 1, 1, none⟩ = some (.slice A2 n2 c2) := B5_8.at_ (i := 1) rfl
  have l6_8 : w.heap.size + 1 + 1 < w8.heap.size := B6_8.lt
  have c60_8 : w8.cell? ⟨w.heap.size + 1 + 1, 0, none⟩ = some (.int .i64 key) := B6_8.at_ (i := 0) rfl
  have l7_8 : w.heap.size + 1 + 1 + 1 < w8.heap.size := B7_8.lt
  have c70_8 : w8.cell? ⟨w.heap.size + 1 + 1 + 1, 0, none⟩ = some (.int .i64 x) := B7_8.at_ (i := 0) rfl
  have l9_8 : w1.heap.size < w8.heap.size := B9_8.lt
  have c90_8 : w8.cell? ⟨w1.heap.size, 0, none⟩ = some (.int .i64 0) := B9_8.at_ (i := 0) rfl
  have c91_8 : w8.cell? ⟨w1.heap.size, 1, none⟩ = some (.slice Ax nx cx) := B9_8.at_ (i := 1) rfl
  have l13_8 : w3.heap.size < w8.heap.size := B13_8.lt
  have c130_8 : w8.cell? ⟨w3.heap.size, 0, none⟩ = some (.int .i64 0) := B13_8.at_ (i := 0) rfl
  have c131_8 : w8.cell? ⟨w3.heap.size, 1, none⟩ = some (.slice Ay ny cy) := B13_8.at_ (i := 1) rfl
  have Sx_8 := (Sx_7).on kk8
  have Sy_8 := (Sy_7).on kk8
  clear B4_7 l4_7 c40_7 c41_7 B5_7 l5_7 c50_7 c51_7 B6_7 l6_7 c60_7 B7_7 l7_7 c70_7 B9_7 l9_7 c90_7 c91_7 B13_7 l13_7 c130_7 c131_7 Sx_7 Sy_7 kk8
  go_wp2_with fail
  go_ret
  exact ⟨rfl, kw8⟩
end Go.Proofs.Ytjmkejindmgckaa
