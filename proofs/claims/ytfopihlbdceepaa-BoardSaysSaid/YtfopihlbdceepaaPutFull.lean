/-
  board.Put at a full board: the walk. Conditions: the slice reads as a list of rules that may be; the text's length.
-/
import Derived.Test.YtfopihlbdceepaaBoard7
namespace Go.Proofs.Ytfopihlbdceepaa
open Go.RowKit Go.Shelf

section
variable {A : Option Addr} {n c : Nat} {l : List Rul} {w : World}
set_option maxRecDepth 20000 in
set_option maxHeartbeats 3200000 in
theorem bput_full (h : Sr w A n c l) (hok : RlOk l) (p : ByteArray) (a b : Int) (hp : p.size ≤ 9223372036854775807) (h1 : oneErr (p, a, b) = 0) {P : Nat} (hP : posR p l = P) (hPn : P ≤ n) (hh : hasR p l = false) (e16 : n = 16) :
    Calls Try.prog 5 #[.slice A n c, .agg #[.string p, .int .i64 a, .int .i64 b]] w fun e w' => e = .returned (.tuple #[.slice none 0 0, .int .i64 2]) ∧ Below w.heap.size w w' := by
  have hm := h.len_max
  have hn16 : n ≤ 16 := by rw [← h.rlen]; exact hok.len
  have b0 := Blk.new w 24 #[.string p, .int .i64 a, .int .i64 b]
  have hb0 : Below w.heap.size w (w.alloc (.cells #[.string p, .int .i64 a, .int .i64 b] 24)) := by repeat' (first | assumption | with_reducible exact Below.refl _ _ | with_reducible apply Below.drew | with_reducible apply below_drewN | with_reducible apply below_alloc | with_reducible refine below_set ?_ ?_ _ | (simp only [World.size_alloc, World.heap_drewN]; omega) | (simp; omega))
  have CC := hide (bcheck_any (h.on hb0) hok.fit)
  rw [rlErr_of h.rlen hok] at CC
  have CO := hide (fun w => one_any p a b w hp)
  have CL := hide (fun w' (hb : Below w.heap.size w w') => cloneR (h.on hb) (by omega))
  have CF := hide (fun w' (hb : Below w.heap.size w w') => find_any (key := p) (h.on hb) hok.up (by omega))
  rw [h1] at CO
  rw [hP, hh] at CF
  have HLN := hide h.rlen
  have t1 : decide (n = 16) = true := decide_eq_true e16
  have t2 : decide ((n : Int) = 16) = true := decide_eq_true (by omega)
  have t3 : (n == 16) = true := by simpa using e16
  have t4 : ((n : Int) == 16) = true := by simp [e16]
  have E16 := hide e16
  clear e16
  clear h1 hP hh hok h
  go_enter Try.func5, Try.ntmps5
  go_wp2_with fail
  refine CC.out.mono ?_
  rintro e w1 ⟨rfl, bel1⟩
  have b1 := b0.below bel1 b0.lt
  have k1 := below_on hb0 bel1
  have c0 := b1.at_ (i := 0) (u := .string p) rfl
  have c1 := b1.at_ (i := 1) (u := .int .i64 a) rfl
  have c2 := b1.at_ (i := 2) (u := .int .i64 b) rfl
  clear b0 hb0 bel1 CC
  go_wp2_with fail
  refine (CO.out _).mono ?_
  rintro e w2 ⟨rfl, bel2⟩
  have b2 := b1.below bel2 b1.lt
  have k2 := below_on k1 bel2
  clear c0 c1 c2 b1 k1 bel2 CO
  go_wp2_with fail
  refine (CL.out _ k2).mono ?_
  rintro e w3 ⟨AC, cC, rfl, own3, bel3⟩
  have b3 := b2.below bel3 b2.lt
  have k3 := below_on k2 bel3
  have lw := b2.lt
  have kz := k2.size
  clear b2 CL
  have c0 := b3.at_ (i := 0) (u := .string p) rfl
  go_wp2_with fail
  refine (CF.out _ k3).mono ?_
  rintro e w4 ⟨rfl, bel4⟩
  have b4 := b3.below bel4 b3.lt
  have own4 := own3.below bel4 (Nat.le_refl _)
  have l4 : Below w2.heap.size w2 w4 := below_on bel3 bel4
  have k4 := below_on k3 bel4
  clear c0 b3 k3 bel4 bel3 own3 CF
  have c0 := b4.at_ (i := 0) (u := .string p) rfl
  have c1 := b4.at_ (i := 1) (u := .int .i64 a) rfl
  have c2 := b4.at_ (i := 2) (u := .int .i64 b) rfl
  clear own4 l4
  go_wp2_with fail
  go_quiet (fail)
  go_wp2_with fail
  go_quiet (fail)
  go_wp2_with fail
  go_ret2
  exact ⟨rfl, by repeat' (first | assumption | with_reducible exact Below.refl _ _ | with_reducible apply Below.drew | with_reducible apply below_drewN | with_reducible apply below_alloc | with_reducible refine below_set ?_ ?_ _ | (simp only [World.size_alloc, World.heap_drewN]; omega) | (simp; omega))⟩
end
end Go.Proofs.Ytfopihlbdceepaa
