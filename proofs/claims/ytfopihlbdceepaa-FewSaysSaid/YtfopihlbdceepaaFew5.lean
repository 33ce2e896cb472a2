/-
  few.Put of what may not be: the walk. Conditions: the counters read as a list of pairs.
-/
import Derived.Test.YtfopihlbdceepaaFew4
import Derived.Test.YtfopihlbdceepaaMinF
import Derived.Deep.DeepCutAuto
namespace Go.Proofs.Ytfopihlbdceepaa
open Go.RowKit

/-- No counters. -/
abbrev noFew : Array Value := #[.int .i64 0, .int .i64 0, .slice none 0 0]
theorem fewTwo (w : World) (cs : Array Value) : Blk ((w.alloc (.cells cs 38)).alloc (.cells noFew 38)) w.heap.size 38 cs ∧ Blk ((w.alloc (.cells cs 38)).alloc (.cells noFew 38)) (w.heap.size + 1) 38 noFew := by
  refine ⟨(Blk.new w _ _).alloc _, ?_⟩
  have := Blk.new (w.alloc (.cells cs 38)) 38 noFew
  rwa [World.size_alloc] at this
section
variable {A : Option Addr} {n c : Nat} {l : List Ct} {w : World} {K L key v : Int}
set_option maxRecDepth 20000 in
set_option maxHeartbeats 3200000 in
theorem fput_bad (h : Sp w A n c l) {E : Int} (hE : fwErr K L n l = E) (h0 : E ≠ 0) :
    Calls Try.prog 14 #[.agg #[.int .i64 K, .int .i64 L, .slice A n c], .int .i64 key, .int .i64 v] w fun e w' => e = .returned (.tuple #[.agg noFew, .int .i64 E]) ∧ Below w.heap.size w w' := by
  have t1 : (E != 0) = true := by simpa using h0
  obtain ⟨p0, r0⟩ := fewTwo w #[.int .i64 K, .int .i64 L, .slice A n c]
  have hb0 : Below w.heap.size w ((w.alloc (.cells #[.int .i64 K, .int .i64 L, .slice A n c] 38)).alloc (.cells noFew 38)) := by repeat' (first | assumption | with_reducible exact Below.refl _ _ | with_reducible apply Below.drew | with_reducible apply below_drewN | with_reducible apply below_alloc | with_reducible refine below_set ?_ ?_ _ | (simp only [World.size_alloc, World.heap_drewN]; omega) | (simp; omega))
  have CC := hide (fcheck_any K L (h.on hb0))
  rw [hE] at CC
  clear hE h h0
  go_enter Try.func14, Try.ntmps14
  go_wp2_with fail
  refine CC.out.mono ?_
  rintro e w1 ⟨rfl, b1⟩
  have r1 := r0.below b1 r0.lt
  have k1 := below_on hb0 b1
  have z0 := r1.at_ (i := 0) (u := .int .i64 0) rfl
  have z1 := r1.at_ (i := 1) (u := .int .i64 0) rfl
  have z2 := r1.at_ (i := 2) (u := .slice none 0 0) rfl
  have f0 := r1.free 0
  have f1 := r1.free 1
  have f2 := r1.free 2
  clear p0 r0 b1 hb0
  go_wp2_with fail
  have bf : Blk (((w1.setCell ⟨w.heap.size + 1, 0, none⟩ (.int .i64 0)).setCell ⟨w.heap.size + 1, 1, none⟩ (.int .i64 0)).setCell ⟨w.heap.size + 1, 2, none⟩ (.slice none 0 0)) (w.heap.size + 1) 38 noFew := by
    simpa [noFew] using ((r1.set 0 (.int .i64 0)).set 1 (.int .i64 0)).set 2 (.slice none 0 0)
  have hbf : Below w.heap.size w (((w1.setCell ⟨w.heap.size + 1, 0, none⟩ (.int .i64 0)).setCell ⟨w.heap.size + 1, 1, none⟩ (.int .i64 0)).setCell ⟨w.heap.size + 1, 2, none⟩ (.slice none 0 0)) :=
    below_set (below_set (below_set k1 (by dsimp only; omega) _) (by dsimp only; omega) _) (by dsimp only; omega) _
  clear z0 z1 z2 f0 f1 f2
  generalize (((w1.setCell ⟨w.heap.size + 1, 0, none⟩ (.int .i64 0)).setCell ⟨w.heap.size + 1, 1, none⟩ (.int .i64 0)).setCell ⟨w.heap.size + 1, 2, none⟩ (.slice none 0 0)) = wf at bf hbf ⊢
  have z0 := bf.at_ (i := 0) (u := .int .i64 0) rfl
  have z1 := bf.at_ (i := 1) (u := .int .i64 0) rfl
  have z2 := bf.at_ (i := 2) (u := .slice none 0 0) rfl
  exact bodyPost_ret (v := .tuple #[.agg noFew, .int .i64 E]) (by simp [results, Try.results14, go_sem, z0, z1, z2]) rfl ⟨rfl, hbf⟩
set_option maxRecDepth 20000 in
set_option maxHeartbeats 3200000 in
theorem fput_arg (h : Sp w A n c l) (hE : fwErr K L n l = 0) (hv : v < 1 ∨ 1000000000000 < v) :
    Calls Try.prog 14 #[.agg #[.int .i64 K, .int .i64 L, .slice A n c], .int .i64 key, .int .i64 v] w fun e w' => e = .returned (.tuple #[.agg noFew, .int .i64 1]) ∧ Below w.heap.size w w' := by
  obtain ⟨p0, r0⟩ := fewTwo w #[.int .i64 K, .int .i64 L, .slice A n c]
  have hb0 : Below w.heap.size w ((w.alloc (.cells #[.int .i64 K, .int .i64 L, .slice A n c] 38)).alloc (.cells noFew 38)) := by repeat' (first | assumption | with_reducible exact Below.refl _ _ | with_reducible apply Below.drew | with_reducible apply below_drewN | with_reducible apply below_alloc | with_reducible refine below_set ?_ ?_ _ | (simp only [World.size_alloc, World.heap_drewN]; omega) | (simp; omega))
  have CC := hide (fcheck_any K L (h.on hb0))
  rw [hE] at CC
  clear hE h
  have HF := hide (show ∀ w1 : World, Blk w1 (w.heap.size + 1) 38 noFew → Below w.heap.size w w1 → Blk (((w1.setCell ⟨w.heap.size + 1, 0, none⟩ (.int .i64 0)).setCell ⟨w.heap.size + 1, 1, none⟩ (.int .i64 0)).setCell ⟨w.heap.size + 1, 2, none⟩ (.slice none 0 0)) (w.heap.size + 1) 38 noFew ∧ Below w.heap.size w (((w1.setCell ⟨w.heap.size + 1, 0, none⟩ (.int .i64 0)).setCell ⟨w.heap.size + 1, 1, none⟩ (.int .i64 0)).setCell ⟨w.heap.size + 1, 2, none⟩ (.slice none 0 0)) from fun w1 r1 k1 => ⟨by
    simpa [noFew] using ((r1.set 0 (.int .i64 0)).set 1 (.int .i64 0)).set 2 (.slice none 0 0), below_set (below_set (below_set k1 (by dsimp only; omega) _) (by dsimp only; omega) _) (by dsimp only; omega) _⟩)
  by_cases h1 : v < 1
  all_goals
    (try have h2 : 1000000000000 < v := by omega)
    clear hv
    go_enter Try.func14, Try.ntmps14
    go_wp2_with fail
    refine CC.out.mono ?_
    rintro e w1 ⟨rfl, b1⟩
    have r1 := r0.below b1 r0.lt
    have k1 := below_on hb0 b1
    have z0 := r1.at_ (i := 0) (u := .int .i64 0) rfl
    have z1 := r1.at_ (i := 1) (u := .int .i64 0) rfl
    have z2 := r1.at_ (i := 2) (u := .slice none 0 0) rfl
    have f0 := r1.free 0
    have f1 := r1.free 1
    have f2 := r1.free 2
    clear p0 r0 b1 hb0
    go_wp2_with fail
    obtain ⟨bf, hbf⟩ := HF.out _ r1 k1
    clear z0 z1 z2 f0 f1 f2
    generalize (((w1.setCell ⟨w.heap.size + 1, 0, none⟩ (.int .i64 0)).setCell ⟨w.heap.size + 1, 1, none⟩ (.int .i64 0)).setCell ⟨w.heap.size + 1, 2, none⟩ (.slice none 0 0)) = wf at bf hbf ⊢
    have z0 := bf.at_ (i := 0) (u := .int .i64 0) rfl
    have z1 := bf.at_ (i := 1) (u := .int .i64 0) rfl
    have z2 := bf.at_ (i := 2) (u := .slice none 0 0) rfl
    exact bodyPost_ret (v := .tuple #[.agg noFew, .int .i64 1]) (by simp [results, Try.results14, go_sem, z0, z1, z2]) rfl ⟨rfl, hbf⟩
end
end Go.Proofs.Ytfopihlbdceepaa
