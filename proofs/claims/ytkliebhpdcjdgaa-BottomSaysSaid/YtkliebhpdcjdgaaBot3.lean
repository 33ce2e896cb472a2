/-
  slices.BinarySearch at []int, of rising numbers; bottom.Put: the walks. Conditions: the slices read as lists of numbers; the bottom may be.
-/
import Derived.Test.YtkliebhpdcjdgaaBot2
import Derived.Test.YtkliebhpdcjdgaaIns
import Derived.Shelf.SlGeneric
import Derived.Shelf.SlicesG.SearchI
import Derived.Ground.SlgnProg
import Derived.Deep.LoopGhost
import Derived.Deep.DeepCutAuto
import Derived.BigRegion
import Derived.Outline
import Derived.Deep.Cut
namespace Go.Proofs.Ytkliebhpdcjdgaa
open Go.RowKit Go.Shelf

def laysBS_ren : Go.Shelf.Ren := ⟨fun | 49 => 57 | 59 => 94 | 60 => 95 | 68 => 124 | n => n, fun | 22 => 22 | 23 => 3 | 3 => 3 | 4 => 4 | 51 => 79 | 0 => 0 | n => n, fun | n => n⟩
theorem laysBS : Go.Proofs.SlLaysN.n49 Try.prog laysBS_ren := {
  mixed := by kernel_rfl
  f49 := ⟨Try.f57.name, by decide, Try.func57.trans (congrArg some (by kernel_rfl))⟩
  f59 := ⟨Try.f94.name, by decide, Try.func94.trans (congrArg some (by kernel_rfl))⟩
  f60 := ⟨Try.f95.name, by decide, Try.func95.trans (congrArg some (by kernel_rfl))⟩
  f68 := ⟨Try.f124.name, by decide, Try.func124.trans (congrArg some (by kernel_rfl))⟩
  t0 := Try.underlying0
  a0 := Try.isAgg0
  z0 := Try.sizeOf0
  v0 := Try.zeroValue0
  t3 := Try.underlying3
  a3 := Try.isAgg3
  z3 := Try.sizeOf3
  v3 := Try.zeroValue3
  t4 := Try.underlying4
  a4 := Try.isAgg4
  z4 := Try.sizeOf4
  v4 := Try.zeroValue4
  t22 := Try.underlying22
  a22 := Try.isAgg22
  z22 := Try.sizeOf22
  v22 := Try.zeroValue22
  t23 := Try.underlying3
  a23 := Try.isAgg3
  z23 := Try.sizeOf3
  v23 := Try.zeroValue3
  t51 := Try.underlying79
  a51 := Try.isAgg79
  z51 := Try.sizeOf79
  v51 := Try.zeroValue79 }
theorem count_low {x : Int} : ∀ {l : List Int}, Up l → (∀ y ∈ l.take (l.countP (· < x)), y < x) ∧ (∀ y ∈ l.drop (l.countP (· < x)), x ≤ y)
  | [], _ => by simp
  | a :: l, h => by
    rw [Up, List.pairwise_cons] at h
    obtain ⟨h1, h2⟩ := count_low (x := x) h.2
    by_cases ha : a < x
    · rw [List.countP_cons_of_pos (by simpa using ha)]
      refine ⟨fun y hy => ?_, fun y hy => h2 y (by simpa using hy)⟩
      rw [List.take_succ_cons] at hy
      rcases List.mem_cons.1 hy with rfl | hy
      · exact ha
      · exact h1 y hy
    · have h0 : l.countP (· < x) = 0 := by
        rw [List.countP_eq_zero]
        intro y hy
        have := h.1 y hy
        simp; omega
      rw [List.countP_cons_of_neg (by simpa using ha), h0]
      refine ⟨by simp, fun y hy => ?_⟩
      rw [List.drop_zero] at hy
      rcases List.mem_cons.1 hy with rfl | hy
      · omega
      · have := h.1 y hy; omega
theorem ins_at {x : Int} {l : List Int} (h : Up l) (hx : l.contains x = false) : insU x l = l.take (l.countP (· < x)) ++ x :: l.drop (l.countP (· < x)) := by
  obtain ⟨h1, h2⟩ := count_low (x := x) h
  refine insU_at (List.countP_le_length) h1 fun y hy => ?_
  have h3 := h2 y hy
  have h4 : y ≠ x := by
    rintro rfl
    have : l.contains y = true := by simpa using List.mem_of_mem_drop hy
    rw [this] at hx; cases hx
  omega
theorem bs_ok {A : Option Addr} {n c base : Nat} {xs : List Int} {x : Int} {w : World} (own : Own w base 3 1 A n c (ints xs)) (hup : Up xs) (hn1 : n ≤ 1000) {i : Nat} {b : Bool} (hi : xs.countP (· < x) = i) (hb : xs.contains x = b) :
    Calls Try.prog 57 #[.slice A n c, .int .i64 x] w fun e w' => e = .returned (.tuple #[.int .i64 i, .bool b]) ∧ ∃ q, w' = w.drewN q := by
  have hl := own.sl.ilen
  have hm := own.sl.max
  have hcap := own.sl.cap
  by_cases h0 : n = 0
  · subst h0
    have hx : xs = [] := List.eq_nil_of_length_eq_zero hl
    subst hx
    simp only [List.countP_nil] at hi
    simp only [List.contains_nil] at hb
    subst hi
    subst hb
    go_enter Try.func57, Try.ntmps57
    go_wp2_with fail
    go_loopg [7, 8] 1 (fun gf s t wx => s = .int .i64 0 ∧ t = .int .i64 0 ∧ wx = w)
    case atStart => exact ⟨rfl, rfl, rfl⟩
    case round =>
      obtain ⟨rfl, rfl, rfl⟩ := hrel
      go_wp2_with fail
      go_ret2
      exact ⟨rfl, 0, rfl⟩
  · obtain ⟨g, rfl, _, _⟩ := own.addr (by omega)
    have hcell : ∀ j, j < xs.length → w.cell? ⟨g, 0 + j, none⟩ = some (.int .i64 (xs.getD j 0)) := by
      intro j hj
      rw [Nat.zero_add]
      exact own.cell (ints_at (getD_at hj))
    refine (AnyG.slices_BinarySearch_int laysBS g 0 n c xs x w (by omega) (by omega) hcell (by rw [List.take_of_length_le (by omega)]; exact hup.imp (fun h => Int.le_of_lt h))).mono ?_
    rintro e w' ⟨rfl, hq⟩
    rw [List.take_of_length_le (by omega), hi, hb]
    exact ⟨rfl, hq⟩
def BotRet (w : World) (K : Int) (zs : List Int) (e : Ending) (w' : World) : Prop :=
  ∃ A n c, e = .returned (.tuple #[.agg #[.int .i64 K, .slice A n c], .int .i64 0]) ∧ Own w' w.heap.size 3 1 A n c (ints zs) ∧ Below w.heap.size w w'
section
variable {A : Option Addr} {n c : Nat} {xs : List Int} {w : World}
theorem twoBlk (w : World) (a b a2 b2 : Value) (t : TypeId) : Blk ((w.alloc (.cells #[a, b] t)).alloc (.cells #[a2, b2] t)) w.heap.size t #[a, b] ∧ Blk ((w.alloc (.cells #[a, b] t)).alloc (.cells #[a2, b2] t)) (w.heap.size + 1) t #[a2, b2] :=
  ⟨(Blk.new w _ _).alloc _, by simpa using Blk.new (w.alloc (.cells #[a, b] t)) t #[a2, b2]⟩
set_option maxRecDepth 20000 in
set_option maxHeartbeats 1600000 in
theorem bput_bad {K x : Int} (h : Si w A n c xs) {E : Int} (he : botErr K n xs = E) (h0 : ¬ E = 0) :
    Calls Try.prog 17 #[.agg #[.int .i64 K, .slice A n c], .int .i64 x] w fun e w' => e = .returned (.tuple #[.agg #[.int .i64 0, .slice none 0 0], .int .i64 E]) ∧ Below w.heap.size w w' := by
  have t1 : (E != 0) = true := by simpa using h0
  obtain ⟨_, rb⟩ := twoBlk w (.int .i64 K) (.slice A n c) (.int .i64 0) (.slice none 0 0) 37
  have hb0 : Below w.heap.size w ((w.alloc (.cells #[.int .i64 K, .slice A n c] 37)).alloc (.cells #[.int .i64 0, .slice none 0 0] 37)) := by repeat' (first | assumption | with_reducible exact Below.refl _ _ | with_reducible apply Below.drew | with_reducible apply below_drewN | with_reducible apply below_alloc | with_reducible refine below_set ?_ ?_ _ | (simp only [World.size_alloc, World.heap_drewN]; omega) | (simp; omega))
  have HC := hide (bcheck_is (K := K) (h.on hb0) he)
  clear he h0
  go_enter Try.func17, Try.ntmps17
  go_wp2_with fail
  refine HC.out.mono ?_
  rintro e w1 ⟨rfl, bel⟩
  have r1 := rb.below bel rb.lt
  have c0 := r1.at_ (i := 0) (u := .int .i64 0) rfl
  have c1 := r1.at_ (i := 1) (u := .slice none 0 0) rfl
  have f0 := r1.free 0
  have f1 := r1.free 1
  go_wp2_with fail
  clear c0 c1 f0 f1
  have bf := (r1.set 0 (.int .i64 0)).set 1 (.slice none 0 0)
  have hbf := below_set (below_set (below_on hb0 bel) (p := ⟨w.heap.size + 1, 0, none⟩) (by dsimp only; omega) (.int .i64 0)) (p := ⟨w.heap.size + 1, 1, none⟩) (by dsimp only; omega) (.slice none 0 0)
  generalize ((w1.setCell ⟨w.heap.size + 1, 0, none⟩ (.int .i64 0)).setCell ⟨w.heap.size + 1, 1, none⟩ (.slice none 0 0)) = wf at bf hbf ⊢
  have z0 := bf.at_ (i := 0) (u := .int .i64 0) rfl
  have z1 := bf.at_ (i := 1) (u := .slice none 0 0) rfl
  exact bodyPost_ret (v := .tuple #[.agg #[.int .i64 0, .slice none 0 0], .int .i64 E]) (by simp [results, Try.results17, go_sem, z0, z1]) rfl ⟨rfl, hbf⟩
set_option maxRecDepth 20000 in
set_option maxHeartbeats 1600000 in
theorem bput_arg {K x : Int} (h : Si w A n c xs) (he : botErr K n xs = 0) (hd : isDraw x = false) :
    Calls Try.prog 17 #[.agg #[.int .i64 K, .slice A n c], .int .i64 x] w fun e w' => e = .returned (.tuple #[.agg #[.int .i64 0, .slice none 0 0], .int .i64 1]) ∧ Below w.heap.size w w' := by
  obtain ⟨_, rb⟩ := twoBlk w (.int .i64 K) (.slice A n c) (.int .i64 0) (.slice none 0 0) 37
  have hb0 : Below w.heap.size w ((w.alloc (.cells #[.int .i64 K, .slice A n c] 37)).alloc (.cells #[.int .i64 0, .slice none 0 0] 37)) := by repeat' (first | assumption | with_reducible exact Below.refl _ _ | with_reducible apply Below.drew | with_reducible apply below_drewN | with_reducible apply below_alloc | with_reducible refine below_set ?_ ?_ _ | (simp only [World.size_alloc, World.heap_drewN]; omega) | (simp; omega))
  have HC := hide (bcheck_is (K := K) (h.on hb0) he)
  have HD := hide hd
  clear he hd
  go_enter Try.func17, Try.ntmps17
  go_wp2_with fail
  refine HC.out.mono ?_
  rintro e w1 ⟨rfl, bel⟩
  go_wp2_with fail
  refine (hnum_is HD.out _).mono ?_
  rintro e w2 ⟨rfl, rfl⟩
  have r1 := rb.below bel rb.lt
  have c0 := r1.at_ (i := 0) (u := .int .i64 0) rfl
  have c1 := r1.at_ (i := 1) (u := .slice none 0 0) rfl
  have f0 := r1.free 0
  have f1 := r1.free 1
  go_wp2_with fail
  clear c0 c1 f0 f1
  have bf := (r1.set 0 (.int .i64 0)).set 1 (.slice none 0 0)
  have hbf := below_set (below_set (below_on hb0 bel) (p := ⟨w.heap.size + 1, 0, none⟩) (by dsimp only; omega) (.int .i64 0)) (p := ⟨w.heap.size + 1, 1, none⟩) (by dsimp only; omega) (.slice none 0 0)
  generalize ((w1.setCell ⟨w.heap.size + 1, 0, none⟩ (.int .i64 0)).setCell ⟨w.heap.size + 1, 1, none⟩ (.slice none 0 0)) = wf at bf hbf ⊢
  have z0 := bf.at_ (i := 0) (u := .int .i64 0) rfl
  have z1 := bf.at_ (i := 1) (u := .slice none 0 0) rfl
  exact bodyPost_ret (v := .tuple #[.agg #[.int .i64 0, .slice none 0 0], .int .i64 1]) (by simp [results, Try.results17, go_sem, z0, z1]) rfl ⟨rfl, hbf⟩
end
end Go.Proofs.Ytkliebhpdcjdgaa
