/-
  few.Join of what may not be: the walk. Conditions: the counters read as lists of pairs.
-/
import Derived.Test.YtfopihlbdceepaaGreatFJReg
import Derived.Test.YtfopihlbdceepaaGreatFewJP
namespace Go.Proofs.YtfopihlbdceepaaGreat
open Go.RowKit Go.Shelf Go.Maps
set_option linter.unusedVariables false

theorem fewThree (w : World) (cs ds : Array Value) : Blk (((w.alloc (.cells cs 24)).alloc (.cells ds 24)).alloc (.cells noFew 24)) w.heap.size 24 cs ∧ Blk (((w.alloc (.cells cs 24)).alloc (.cells ds 24)).alloc (.cells noFew 24)) (w.heap.size + 1) 24 ds ∧ Blk (((w.alloc (.cells cs 24)).alloc (.cells ds 24)).alloc (.cells noFew 24)) (w.heap.size + 2) 24 noFew := by
  refine ⟨((Blk.new w _ _).alloc _).alloc _, ?_, ?_⟩
  · have := (Blk.new (w.alloc (.cells cs 24)) 24 ds).alloc (.cells noFew 24)
    rwa [World.size_alloc] at this
  · have := Blk.new ((w.alloc (.cells cs 24)).alloc (.cells ds 24)) 24 noFew
    rwa [World.size_alloc, World.size_alloc] at this
section
variable {A A2 : Option Addr} {n c n2 c2 : Nat} {l m : List Ct} {w : World} {K L K2 L2 : Int}
set_option maxRecDepth 20000 in
set_option maxHeartbeats 3200000 in
theorem fjoin_bad1 (h : Sp w A n c l) {E : Int} (hE : fwErr K L n l = E) (h0 : E ≠ 0) :
    Calls Tryz.prog 4 #[.agg #[.int .i64 K, .int .i64 L, .slice A n c], .agg #[.int .i64 K2, .int .i64 L2, .slice A2 n2 c2]] w fun e w' => e = .returned (.tuple #[.agg noFew, .int .i64 E]) ∧ Below w.heap.size w w' := by
  have t1 : (E != 0) = true := by simpa using h0
  have HE := hide hE
  clear hE h0
  obtain ⟨p0, g0, r0⟩ := fewThree w #[.int .i64 K, .int .i64 L, .slice A n c] #[.int .i64 K2, .int .i64 L2, .slice A2 n2 c2]
  have hb0 : Below w.heap.size w (((w.alloc (.cells #[.int .i64 K, .int .i64 L, .slice A n c] 24)).alloc (.cells #[.int .i64 K2, .int .i64 L2, .slice A2 n2 c2] 24)).alloc (.cells noFew 24)) := by repeat' (first | assumption | with_reducible exact Below.refl _ _ | with_reducible apply Below.drew | with_reducible apply below_drewN | with_reducible apply below_alloc | with_reducible refine below_set ?_ ?_ _ | (simp only [World.size_alloc, World.heap_drewN]; omega) | (simp; omega))
  go_enter Tryz.func4, Tryz.ntmps4
  go_wp2_with fail
  refine (fcheck_is (h.on hb0) HE.out).mono ?_
  rintro e w1 ⟨rfl, b1⟩
  have r1 := r0.below b1 r0.lt
  have p1 := p0.below b1 p0.lt
  have g1 := g0.below b1 g0.lt
  have k1 := below_on hb0 b1
  clear r0 p0 g0 b1
  have z0 := r1.at_ (i := 0) (u := .int .i64 0) rfl
  have z1 := r1.at_ (i := 1) (u := .int .i64 0) rfl
  have z2 := r1.at_ (i := 2) (u := .slice none 0 0) rfl
  have y0 := r1.free 0
  have y1 := r1.free 1
  have y2 := r1.free 2
  clear p1 g1
  go_wp2_with fail
  have bf : Blk (((w1.setCell ⟨w.heap.size + 2, 0, none⟩ (.int .i64 0)).setCell ⟨w.heap.size + 2, 1, none⟩ (.int .i64 0)).setCell ⟨w.heap.size + 2, 2, none⟩ (.slice none 0 0)) (w.heap.size + 2) 24 noFew := by
    simpa [noFew] using ((r1.set 0 (.int .i64 0)).set 1 (.int .i64 0)).set 2 (.slice none 0 0)
  have hbf : Below w.heap.size w (((w1.setCell ⟨w.heap.size + 2, 0, none⟩ (.int .i64 0)).setCell ⟨w.heap.size + 2, 1, none⟩ (.int .i64 0)).setCell ⟨w.heap.size + 2, 2, none⟩ (.slice none 0 0)) :=
    below_set (below_set (below_set k1 (by dsimp only; omega) _) (by dsimp only; omega) _) (by dsimp only; omega) _
  clear z0 z1 z2 y0 y1 y2
  generalize (((w1.setCell ⟨w.heap.size + 2, 0, none⟩ (.int .i64 0)).setCell ⟨w.heap.size + 2, 1, none⟩ (.int .i64 0)).setCell ⟨w.heap.size + 2, 2, none⟩ (.slice none 0 0)) = wf at bf hbf ⊢
  have z0 := bf.at_ (i := 0) (u := .int .i64 0) rfl
  have z1 := bf.at_ (i := 1) (u := .int .i64 0) rfl
  have z2 := bf.at_ (i := 2) (u := .slice none 0 0) rfl
  exact bodyPost_ret (v := .tuple #[.agg noFew, .int .i64 E]) (by simp [results, Tryz.results4, go_sem, z0, z1, z2]) rfl ⟨rfl, hbf⟩
set_option maxRecDepth 20000 in
set_option maxHeartbeats 3200000 in
theorem fjoin_bad2 (h : Sp w A n c l) (hE : fwErr K L n l = 0) (h2 : Sp w A2 n2 c2 m) {E : Int} (hE2 : fwErr K2 L2 n2 m = E) (h0 : E ≠ 0) :
    Calls Tryz.prog 4 #[.agg #[.int .i64 K, .int .i64 L, .slice A n c], .agg #[.int .i64 K2, .int .i64 L2, .slice A2 n2 c2]] w fun e w' => e = .returned (.tuple #[.agg noFew, .int .i64 E]) ∧ Below w.heap.size w w' := by
  have t1 : (E != 0) = true := by simpa using h0
  have HE := hide hE
  have HE2 := hide hE2
  clear hE hE2 h0
  obtain ⟨p0, g0, r0⟩ := fewThree w #[.int .i64 K, .int .i64 L, .slice A n c] #[.int .i64 K2, .int .i64 L2, .slice A2 n2 c2]
  have hb0 : Below w.heap.size w (((w.alloc (.cells #[.int .i64 K, .int .i64 L, .slice A n c] 24)).alloc (.cells #[.int .i64 K2, .int .i64 L2, .slice A2 n2 c2] 24)).alloc (.cells noFew 24)) := by repeat' (first | assumption | with_reducible exact Below.refl _ _ | with_reducible apply Below.drew | with_reducible apply below_drewN | with_reducible apply below_alloc | with_reducible refine below_set ?_ ?_ _ | (simp only [World.size_alloc, World.heap_drewN]; omega) | (simp; omega))
  go_enter Tryz.func4, Tryz.ntmps4
  go_wp2_with fail
  refine (fcheck_is (h.on hb0) HE.out).mono ?_
  rintro e w1 ⟨rfl, b1⟩
  have r1 := r0.below b1 r0.lt
  have p1 := p0.below b1 p0.lt
  have g1 := g0.below b1 g0.lt
  have k1 := below_on hb0 b1
  clear r0 p0 g0 b1
  have c0 := g1.at_ (i := 0) (u := .int .i64 K2) rfl
  have c1 := g1.at_ (i := 1) (u := .int .i64 L2) rfl
  have c2_ := g1.at_ (i := 2) (u := .slice A2 n2 c2) rfl
  go_wp2_with fail
  refine (fcheck_is (h2.on k1) HE2.out).mono ?_
  rintro e w2 ⟨rfl, b2⟩
  clear c0 c1 c2_
  have r2 := r1.below b2 r1.lt
  have p2 := p1.below b2 p1.lt
  have g2 := g1.below b2 g1.lt
  have k2 := below_on k1 b2
  clear r1 p1 g1 b2
  have z0 := r2.at_ (i := 0) (u := .int .i64 0) rfl
  have z1 := r2.at_ (i := 1) (u := .int .i64 0) rfl
  have z2 := r2.at_ (i := 2) (u := .slice none 0 0) rfl
  have y0 := r2.free 0
  have y1 := r2.free 1
  have y2 := r2.free 2
  clear p2 g2
  go_wp2_with fail
  have bf : Blk (((w2.setCell ⟨w.heap.size + 2, 0, none⟩ (.int .i64 0)).setCell ⟨w.heap.size + 2, 1, none⟩ (.int .i64 0)).setCell ⟨w.heap.size + 2, 2, none⟩ (.slice none 0 0)) (w.heap.size + 2) 24 noFew := by
    simpa [noFew] using ((r2.set 0 (.int .i64 0)).set 1 (.int .i64 0)).set 2 (.slice none 0 0)
  have hbf : Below w.heap.size w (((w2.setCell ⟨w.heap.size + 2, 0, none⟩ (.int .i64 0)).setCell ⟨w.heap.size + 2, 1, none⟩ (.int .i64 0)).setCell ⟨w.heap.size + 2, 2, none⟩ (.slice none 0 0)) :=
    below_set (below_set (below_set k2 (by dsimp only; omega) _) (by dsimp only; omega) _) (by dsimp only; omega) _
  clear z0 z1 z2 y0 y1 y2
  generalize (((w2.setCell ⟨w.heap.size + 2, 0, none⟩ (.int .i64 0)).setCell ⟨w.heap.size + 2, 1, none⟩ (.int .i64 0)).setCell ⟨w.heap.size + 2, 2, none⟩ (.slice none 0 0)) = wf at bf hbf ⊢
  have z0 := bf.at_ (i := 0) (u := .int .i64 0) rfl
  have z1 := bf.at_ (i := 1) (u := .int .i64 0) rfl
  have z2 := bf.at_ (i := 2) (u := .slice none 0 0) rfl
  exact bodyPost_ret (v := .tuple #[.agg noFew, .int .i64 E]) (by simp [results, Tryz.results4, go_sem, z0, z1, z2]) rfl ⟨rfl, hbf⟩
set_option maxRecDepth 20000 in
set_option maxHeartbeats 3200000 in
theorem fjoin_len (h : Sp w A n c l) (hE : fwErr K L n l = 0) (h2 : Sp w A2 n2 c2 m) (hE2 : fwErr K2 L2 n2 m = 0) (h0 : K ≠ K2) :
    Calls Tryz.prog 4 #[.agg #[.int .i64 K, .int .i64 L, .slice A n c], .agg #[.int .i64 K2, .int .i64 L2, .slice A2 n2 c2]] w fun e w' => e = .returned (.tuple #[.agg noFew, .int .i64 7]) ∧ Below w.heap.size w w' := by
  have t1 : (K != K2) = true := by simpa using h0
  have HE := hide hE
  have HE2 := hide hE2
  clear hE hE2 h0
  obtain ⟨p0, g0, r0⟩ := fewThree w #[.int .i64 K, .int .i64 L, .slice A n c] #[.int .i64 K2, .int .i64 L2, .slice A2 n2 c2]
  have hb0 : Below w.heap.size w (((w.alloc (.cells #[.int .i64 K, .int .i64 L, .slice A n c] 24)).alloc (.cells #[.int .i64 K2, .int .i64 L2, .slice A2 n2 c2] 24)).alloc (.cells noFew 24)) := by repeat' (first | assumption | with_reducible exact Below.refl _ _ | with_reducible apply Below.drew | with_reducible apply below_drewN | with_reducible apply below_alloc | with_reducible refine below_set ?_ ?_ _ | (simp only [World.size_alloc, World.heap_drewN]; omega) | (simp; omega))
  go_enter Tryz.func4, Tryz.ntmps4
  go_wp2_with fail
  refine (fcheck_is (h.on hb0) HE.out).mono ?_
  rintro e w1 ⟨rfl, b1⟩
  have r1 := r0.below b1 r0.lt
  have p1 := p0.below b1 p0.lt
  have g1 := g0.below b1 g0.lt
  have k1 := below_on hb0 b1
  clear r0 p0 g0 b1
  have c0 := g1.at_ (i := 0) (u := .int .i64 K2) rfl
  have c1 := g1.at_ (i := 1) (u := .int .i64 L2) rfl
  have c2_ := g1.at_ (i := 2) (u := .slice A2 n2 c2) rfl
  go_wp2_with fail
  refine (fcheck_is (h2.on k1) HE2.out).mono ?_
  rintro e w2 ⟨rfl, b2⟩
  clear c0 c1 c2_
  have r2 := r1.below b2 r1.lt
  have p2 := p1.below b2 p1.lt
  have g2 := g1.below b2 g1.lt
  have k2 := below_on k1 b2
  clear r1 p1 g1 b2
  have f0 := p2.at_ (i := 0) (u := .int .i64 K) rfl
  have e0 := g2.at_ (i := 0) (u := .int .i64 K2) rfl
  have z0 := r2.at_ (i := 0) (u := .int .i64 0) rfl
  have z1 := r2.at_ (i := 1) (u := .int .i64 0) rfl
  have z2 := r2.at_ (i := 2) (u := .slice none 0 0) rfl
  have y0 := r2.free 0
  have y1 := r2.free 1
  have y2 := r2.free 2
  clear p2 g2
  go_wp2_with fail
  have bf : Blk (((w2.setCell ⟨w.heap.size + 2, 0, none⟩ (.int .i64 0)).setCell ⟨w.heap.size + 2, 1, none⟩ (.int .i64 0)).setCell ⟨w.heap.size + 2, 2, none⟩ (.slice none 0 0)) (w.heap.size + 2) 24 noFew := by
    simpa [noFew] using ((r2.set 0 (.int .i64 0)).set 1 (.int .i64 0)).set 2 (.slice none 0 0)
  have hbf : Below w.heap.size w (((w2.setCell ⟨w.heap.size + 2, 0, none⟩ (.int .i64 0)).setCell ⟨w.heap.size + 2, 1, none⟩ (.int .i64 0)).setCell ⟨w.heap.size + 2, 2, none⟩ (.slice none 0 0)) :=
    below_set (below_set (below_set k2 (by dsimp only; omega) _) (by dsimp only; omega) _) (by dsimp only; omega) _
  clear z0 z1 z2 y0 y1 y2
  generalize (((w2.setCell ⟨w.heap.size + 2, 0, none⟩ (.int .i64 0)).setCell ⟨w.heap.size + 2, 1, none⟩ (.int .i64 0)).setCell ⟨w.heap.size + 2, 2, none⟩ (.slice none 0 0)) = wf at bf hbf ⊢
  have z0 := bf.at_ (i := 0) (u := .int .i64 0) rfl
  have z1 := bf.at_ (i := 1) (u := .int .i64 0) rfl
  have z2 := bf.at_ (i := 2) (u := .slice none 0 0) rfl
  exact bodyPost_ret (v := .tuple #[.agg noFew, .int .i64 7]) (by simp [results, Tryz.results4, go_sem, z0, z1, z2]) rfl ⟨rfl, hbf⟩
end
end Go.Proofs.YtfopihlbdceepaaGreat
