/-
  bloom.Put and bloom.Has where the filter may not be; the closure of bloom.Has: the walks. Conditions: the bits read as a list.
-/
import Derived.Test.YtjmkejindmgckaaBloom2
namespace Go.Proofs.Ytjmkejindmgckaa
open Go.RowKit

theorem bloomCheck_is {S K : Int} {A : Option Addr} {n c : Nat} {w : World} (hn : n ≤ 9223372036854775807) {E : Int} (he : fltErr S K n = E) :
    Calls Try.prog 24 #[.agg #[.int .i64 S, .int .i64 K, .slice A n c]] w fun e w' => e = .returned (.int .i64 E) ∧ Below w.heap.size w w' := by
  have k := bloomCheck_any (S := S) (K := K) (A := A) (c := c) (w := w) hn; rw [he] at k; exact k
section
variable {S K key : Int} {A : Option Addr} {n c : Nat} {bs : List Bool} {w : World}
set_option maxRecDepth 20000 in
set_option maxHeartbeats 1600000 in
theorem bloomHas_bad (hn : n ≤ 9223372036854775807) {E : Int} (he : fltErr S K n = E) (h0 : ¬ E = 0) :
    Calls Try.prog 21 #[.agg #[.int .i64 S, .int .i64 K, .slice A n c], .int .i64 key] w fun e w' => e = .returned (.tuple #[.bool false, .int .i64 E]) ∧ Below w.heap.size w w' := by
  have t1 : (E != 0) = true := by simpa using h0
  have H := hide he
  clear he h0
  go_enter Try.func21, Try.ntmps21
  go_wp2_with fail
  refine (bloomCheck_is hn H.out).mono ?_
  rintro e w1 ⟨rfl, hb1⟩
  have hw1 : Below w.heap.size w w1 := below_on (by repeat' (first | assumption | with_reducible exact Below.refl _ _ | with_reducible apply Below.drew | with_reducible apply below_drewN | with_reducible apply below_alloc | with_reducible refine below_set ?_ ?_ _ | (simp only [World.size_alloc, World.heap_drewN]; omega) | (simp; omega))) hb1
  go_wp2_with fail
  go_ret2
  exact ⟨rfl, hw1⟩
set_option maxRecDepth 20000 in
set_option maxHeartbeats 1600000 in
theorem bloomPut_bad (hn : n ≤ 9223372036854775807) {E : Int} (he : fltErr S K n = E) (h0 : ¬ E = 0) :
    Calls Try.prog 20 #[.agg #[.int .i64 S, .int .i64 K, .slice A n c], .int .i64 key] w fun e w' => e = .returned (.tuple #[.agg #[.int .i64 0, .int .i64 0, .slice none 0 0], .int .i64 E]) ∧ Below w.heap.size w w' := by
  have t1 : (E != 0) = true := by simpa using h0
  have H := hide he
  clear he h0
  go_enter Try.func20, Try.ntmps20
  go_wp2_with fail
  refine (bloomCheck_is hn H.out).mono ?_
  rintro e w1 ⟨rfl, hb1⟩
  have hw1 : Below w.heap.size w w1 := below_on (by repeat' (first | assumption | with_reducible exact Below.refl _ _ | with_reducible apply Below.drew | with_reducible apply below_drewN | with_reducible apply below_alloc | with_reducible refine below_set ?_ ?_ _ | (simp only [World.size_alloc, World.heap_drewN]; omega) | (simp; omega))) hb1
  have b1 := Blk.new (w.alloc (.cells #[.int .i64 S, .int .i64 K, .slice A n c] 42)) 42 #[.int .i64 0, .int .i64 0, .slice none 0 0]
  rw [World.size_alloc] at b1
  have rb1 := b1.below hb1 b1.lt
  have p0 : w1.cell? ⟨w.heap.size + 1, 0, none⟩ = some (.int .i64 0) := rb1.at_ (i := 0) rfl
  have p1 : w1.cell? ⟨w.heap.size + 1, 1, none⟩ = some (.int .i64 0) := rb1.at_ (i := 1) rfl
  have p2 : w1.cell? ⟨w.heap.size + 1, 2, none⟩ = some (.slice none 0 0) := rb1.at_ (i := 2) rfl
  have f0 := rb1.free 0
  have f1 := rb1.free 1
  have f2 := rb1.free 2
  go_wp2_with fail
  refine bodyPost_ret (v := .tuple #[.agg #[.int .i64 0, .int .i64 0, .slice none 0 0], .int .i64 E]) (by simp [results, Try.results20, go_sem, p0, p1, p2]) rfl ⟨rfl, by repeat' (first | assumption | with_reducible exact Below.refl _ _ | with_reducible apply Below.drew | with_reducible apply below_drewN | with_reducible apply below_alloc | with_reducible refine below_set ?_ ?_ _ | (simp only [World.size_alloc, World.heap_drewN]; omega) | (simp; omega))⟩
/-- The closure of Has: is the i-th bit clear? -/
theorem hasFn_any {b : Nat} (h : w.cell? ⟨b, 2, none⟩ = some (.slice A n c)) (hs : Sb w A n c bs) {i : Nat} (hi : i < n) {x : Bool} (hx : bs[i]? = some x) :
    Calls Try.prog 69 #[.int .i64 i, .pointer (some ⟨b, 0, none⟩)] w fun e w' => e = .returned (.bool (!x)) ∧ w = w' := by
  have hm := hs.len_max
  obtain ⟨ad, y, rfl, hb, hy, hc⟩ := hs.bcell hi
  rw [hx] at hy
  injection hy with hy
  subst hy
  clear hx
  go_enter Try.func69, Try.ntmps69
  go_wp2_with fail
  go_ret
  exact ⟨rfl, rfl⟩
end
end Go.Proofs.Ytjmkejindmgckaa
