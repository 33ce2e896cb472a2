/-
  bloom.Join where the filters may not be joined: the walk. Conditions: the bits' lengths are a machine's.
-/
import Derived.Test.YtjmkejindmgckaaBloom5
namespace Go.Proofs.Ytjmkejindmgckaa
open Go.RowKit

def fjErr (S K : Int) (n : Nat) (S2 K2 : Int) (m : Nat) : Int := if fltErr S K n ≠ 0 then fltErr S K n else if fltErr S2 K2 m ≠ 0 then fltErr S2 K2 m else if S ≠ S2 ∨ K ≠ K2 then 7 else 0
section
variable {S K S2 K2 : Int} {A B : Option Addr} {n c m d : Nat} {w : World}
set_option maxRecDepth 20000 in
set_option maxHeartbeats 1600000 in
theorem bloomJoin_bad (hn : n ≤ 9223372036854775807) (hm : m ≤ 9223372036854775807) {E : Int} (he : fjErr S K n S2 K2 m = E) (h0 : ¬ E = 0) :
    Calls Try.prog 22 #[.agg #[.int .i64 S, .int .i64 K, .slice A n c], .agg #[.int .i64 S2, .int .i64 K2, .slice B m d]] w fun e w' => e = .returned (.tuple #[.agg #[.int .i64 0, .int .i64 0, .slice none 0 0], .int .i64 E]) ∧ Below w.heap.size w w' := by
  have b1 := Blk.new ((w.alloc (.cells #[.int .i64 S, .int .i64 K, .slice A n c] 42)).alloc (.cells #[.int .i64 S2, .int .i64 K2, .slice B m d] 42)) 42 #[.int .i64 0, .int .i64 0, .slice none 0 0]
  rw [World.size_alloc, World.size_alloc] at b1
  have bg := (Blk.new (w.alloc (.cells #[.int .i64 S, .int .i64 K, .slice A n c] 42)) 42 #[.int .i64 S2, .int .i64 K2, .slice B m d]).alloc (.cells #[.int .i64 0, .int .i64 0, .slice none 0 0] 42)
  rw [World.size_alloc] at bg
  have bf := ((Blk.new w 42 #[.int .i64 S, .int .i64 K, .slice A n c]).alloc (.cells #[.int .i64 S2, .int .i64 K2, .slice B m d] 42)).alloc (.cells #[.int .i64 0, .int .i64 0, .slice none 0 0] 42)
  have HB1 := hide b1
  have HBG := hide bg
  have HBF := hide bf
  clear b1 bg bf
  by_cases e1 : fltErr S K n = 0
  · by_cases e2 : fltErr S2 K2 m = 0
    · by_cases e3 : S ≠ S2 ∨ K ≠ K2
      · have hE : (7 : Int) = E := by rw [← he]; unfold fjErr; rw [if_neg (by simpa using e1), if_neg (by simpa using e2), if_pos e3]
        subst hE
        have H1 := hide e1
        have H2 := hide e2
        have key : (S != S2) = true ∨ ((S != S2) = false ∧ (K != K2) = true) := by
          by_cases s : S = S2
          · right
            refine ⟨by simpa using s, ?_⟩
            rcases e3 with e3 | e3
            · exact absurd s e3
            · simpa using e3
          · left; simpa using s
        clear he h0 e1 e2 e3
        rcases key with t1 | ⟨t1, t2⟩
        all_goals
          go_enter Try.func22, Try.ntmps22
          go_wp2_with fail
          refine (bloomCheck_is hn H1.out).mono ?_
          rintro e w1 ⟨rfl, hb1⟩
          have bg1 := HBG.out.below hb1 HBG.out.lt
          have g0 : w1.cell? ⟨w.heap.size + 1, 0, none⟩ = some (.int .i64 S2) := bg1.at_ (i := 0) rfl
          have g1 : w1.cell? ⟨w.heap.size + 1, 1, none⟩ = some (.int .i64 K2) := bg1.at_ (i := 1) rfl
          have g2 : w1.cell? ⟨w.heap.size + 1, 2, none⟩ = some (.slice B m d) := bg1.at_ (i := 2) rfl
          have hw1 : Below w.heap.size w w1 := below_on (by repeat' (first | assumption | with_reducible exact Below.refl _ _ | with_reducible apply Below.drew | with_reducible apply below_drewN | with_reducible apply below_alloc | with_reducible refine below_set ?_ ?_ _ | (simp only [World.size_alloc, World.heap_drewN]; omega) | (simp; omega))) hb1
          go_wp2_with fail
          refine (bloomCheck_is hm H2.out).mono ?_
          rintro e w2 ⟨rfl, hb2⟩
          have hw2 := below_on hw1 hb2
          have bg2 := bg1.below hb2 bg1.lt
          have bf2 := (HBF.out.below hb1 HBF.out.lt).below hb2 (HBF.out.below hb1 HBF.out.lt).lt
          have rb := (HB1.out.below hb1 HB1.out.lt).below hb2 (HB1.out.below hb1 HB1.out.lt).lt
          have g0' : w2.cell? ⟨w.heap.size + 1, 0, none⟩ = some (.int .i64 S2) := bg2.at_ (i := 0) rfl
          have g1' : w2.cell? ⟨w.heap.size + 1, 1, none⟩ = some (.int .i64 K2) := bg2.at_ (i := 1) rfl
          have q0 : w2.cell? ⟨w.heap.size, 0, none⟩ = some (.int .i64 S) := bf2.at_ (i := 0) rfl
          have q1 : w2.cell? ⟨w.heap.size, 1, none⟩ = some (.int .i64 K) := bf2.at_ (i := 1) rfl
          have p0 : w2.cell? ⟨w.heap.size + 1 + 1, 0, none⟩ = some (.int .i64 0) := rb.at_ (i := 0) rfl
          have p1 : w2.cell? ⟨w.heap.size + 1 + 1, 1, none⟩ = some (.int .i64 0) := rb.at_ (i := 1) rfl
          have p2 : w2.cell? ⟨w.heap.size + 1 + 1, 2, none⟩ = some (.slice none 0 0) := rb.at_ (i := 2) rfl
          have f0 := rb.free 0
          have f1 := rb.free 1
          have f2 := rb.free 2
          go_wp2_with fail
          refine bodyPost_ret (v := .tuple #[.agg #[.int .i64 0, .int .i64 0, .slice none 0 0], .int .i64 7]) (by simp [results, Try.results22, go_sem, p0, p1, p2]) rfl ⟨rfl, by repeat' (first | assumption | with_reducible exact Below.refl _ _ | with_reducible apply Below.drew | with_reducible apply below_drewN | with_reducible apply below_alloc | with_reducible refine below_set ?_ ?_ _ | (simp only [World.size_alloc, World.heap_drewN]; omega) | (simp; omega))⟩
      · exfalso
        apply h0
        rw [← he]; unfold fjErr; rw [if_neg (by simpa using e1), if_neg (by simpa using e2), if_neg e3]
    · have hE : fltErr S2 K2 m = E := by rw [← he]; unfold fjErr; rw [if_neg (by simpa using e1), if_pos e2]
      have t1 : (E != 0) = true := by simpa using h0
      have H1 := hide e1
      have H2 := hide hE
      clear he h0 e1 e2 hE
      go_enter Try.func22, Try.ntmps22
      go_wp2_with fail
      refine (bloomCheck_is hn H1.out).mono ?_
      rintro e w1 ⟨rfl, hb1⟩
      have bg1 := HBG.out.below hb1 HBG.out.lt
      have g0 : w1.cell? ⟨w.heap.size + 1, 0, none⟩ = some (.int .i64 S2) := bg1.at_ (i := 0) rfl
      have g1 : w1.cell? ⟨w.heap.size + 1, 1, none⟩ = some (.int .i64 K2) := bg1.at_ (i := 1) rfl
      have g2 : w1.cell? ⟨w.heap.size + 1, 2, none⟩ = some (.slice B m d) := bg1.at_ (i := 2) rfl
      have hw1 : Below w.heap.size w w1 := below_on (by repeat' (first | assumption | with_reducible exact Below.refl _ _ | with_reducible apply Below.drew | with_reducible apply below_drewN | with_reducible apply below_alloc | with_reducible refine below_set ?_ ?_ _ | (simp only [World.size_alloc, World.heap_drewN]; omega) | (simp; omega))) hb1
      go_wp2_with fail
      refine (bloomCheck_is hm H2.out).mono ?_
      rintro e w2 ⟨rfl, hb2⟩
      have hw2 := below_on hw1 hb2
      have rb := (HB1.out.below hb1 HB1.out.lt).below hb2 (HB1.out.below hb1 HB1.out.lt).lt
      have p0 : w2.cell? ⟨w.heap.size + 1 + 1, 0, none⟩ = some (.int .i64 0) := rb.at_ (i := 0) rfl
      have p1 : w2.cell? ⟨w.heap.size + 1 + 1, 1, none⟩ = some (.int .i64 0) := rb.at_ (i := 1) rfl
      have p2 : w2.cell? ⟨w.heap.size + 1 + 1, 2, none⟩ = some (.slice none 0 0) := rb.at_ (i := 2) rfl
      have f0 := rb.free 0
      have f1 := rb.free 1
      have f2 := rb.free 2
      go_wp2_with fail
      refine bodyPost_ret (v := .tuple #[.agg #[.int .i64 0, .int .i64 0, .slice none 0 0], .int .i64 E]) (by simp [results, Try.results22, go_sem, p0, p1, p2]) rfl ⟨rfl, by repeat' (first | assumption | with_reducible exact Below.refl _ _ | with_reducible apply Below.drew | with_reducible apply below_drewN | with_reducible apply below_alloc | with_reducible refine below_set ?_ ?_ _ | (simp only [World.size_alloc, World.heap_drewN]; omega) | (simp; omega))⟩
  · have hE : fltErr S K n = E := by rw [← he]; unfold fjErr; rw [if_pos e1]
    have t1 : (E != 0) = true := by simpa using h0
    have H1 := hide hE
    clear he h0 e1 hE
    go_enter Try.func22, Try.ntmps22
    go_wp2_with fail
    refine (bloomCheck_is hn H1.out).mono ?_
    rintro e w1 ⟨rfl, hb1⟩
    have hw1 : Below w.heap.size w w1 := below_on (by repeat' (first | assumption | with_reducible exact Below.refl _ _ | with_reducible apply Below.drew | with_reducible apply below_drewN | with_reducible apply below_alloc | with_reducible refine below_set ?_ ?_ _ | (simp only [World.size_alloc, World.heap_drewN]; omega) | (simp; omega))) hb1
    have rb := HB1.out.below hb1 HB1.out.lt
    have p0 : w1.cell? ⟨w.heap.size + 1 + 1, 0, none⟩ = some (.int .i64 0) := rb.at_ (i := 0) rfl
    have p1 : w1.cell? ⟨w.heap.size + 1 + 1, 1, none⟩ = some (.int .i64 0) := rb.at_ (i := 1) rfl
    have p2 : w1.cell? ⟨w.heap.size + 1 + 1, 2, none⟩ = some (.slice none 0 0) := rb.at_ (i := 2) rfl
    have f0 := rb.free 0
    have f1 := rb.free 1
    have f2 := rb.free 2
    go_wp2_with fail
    refine bodyPost_ret (v := .tuple #[.agg #[.int .i64 0, .int .i64 0, .slice none 0 0], .int .i64 E]) (by simp [results, Try.results22, go_sem, p0, p1, p2]) rfl ⟨rfl, by repeat' (first | assumption | with_reducible exact Below.refl _ _ | with_reducible apply Below.drew | with_reducible apply below_drewN | with_reducible apply below_alloc | with_reducible refine below_set ?_ ?_ _ | (simp only [World.size_alloc, World.heap_drewN]; omega) | (simp; omega))⟩
end
end Go.Proofs.Ytjmkejindmgckaa
